/-
  A map known exactly (its entries in order): look-up, store, delete, len as equations of the model's run, over any program. Own work.
  A range over a map that is known exactly (its entries in order): every key comes once, in some order. Own work.
  Maps whose keys are strings. Own work.
  disk: what a disk is in memory. Own work.
  disk: an append to a file's bytes, whose slice may be cut short of its block. Own work.
  disk.name: exactly what it answers, at every string. Own work.
  slices.Clone at bytes. Own work (printed by gen_clone.py).
  disk: New, find, Read. Own work.
  disk: how a disk stands behind a change of one file. Own work.
  disk: a new file, a file gone, the turn; an append of bytes at a step. Own work.
  disk: how a disk stands behind an append to one file. Own work.
  disk: Append where it refuses. Own work.
-/
import Derived.WalkKit
import Derived.Deep.Draws
import Derived.Maps.OwnOps
import Derived.Maps.OwnSet
import Derived.Maps.RangeRun
import Derived.Maps.RangeWalk
import Derived.Sort.MapsRangeIn
import Derived.RangeFuncGives
import Derived.Test.YthokoimoiamddaaGreatDoorProg
import Derived.KernelRfl
import Derived.Laws.AppendOwn
import Derived.Lib.Hide
import Derived.BigQuiet
import Derived.Deep.DeepFit
import Derived.WalkSpells
import Derived.WideLaws
set_option linter.unusedSimpArgs false
set_option linter.unusedVariables false
namespace Go.Proofs.YthokoimoiamddaaGreatDoor
open Go Go.RowKit
open Go.ChangeMaps (setBlock)

/-- One entry: key, value, the clock at its birth. -/
structure MEnt (κ : Type) where
  k : κ
  v : Value
  b : Nat

def MEnt.ent {κ : Type} (kv : κ → Value) (e : MEnt κ) : MapEntry := { key := kv e.k, val := e.v, born := e.b }

/-- Block b is just the map of these entries. -/
def MapAt {κ : Type} (kv : κ → Value) (w : World) (b : Nat) (L : List (MEnt κ)) (c : Nat) : Prop :=
  w.heap[b]? = some (.map (L.map (MEnt.ent kv)).toArray c)

section
variable {κ : Type} {kv : κ → Value} {w : World} {b c : Nat} {L : List (MEnt κ)}
theorem MapAt.lt (h : MapAt kv w b L c) : b < w.heap.size := (Array.getElem?_eq_some_iff.1 h).1
theorem MapAt.alloc (h : MapAt kv w b L c) (o : Obj) : MapAt kv (w.alloc o) b L c := (Below.heap_alloc w o b h.lt).trans h
theorem MapAt.setCell (h : MapAt kv w b L c) (a : Addr) (u : Value) (hn : b ≠ a.block) : MapAt kv (w.setCell a u) b L c := (Below.heap_setCell w a u b hn).trans h
theorem MapAt.drew (h : MapAt kv w b L c) : MapAt kv w.drew b L c := h
theorem MapAt.drewN (h : MapAt kv w b L c) (n : Nat) : MapAt kv (w.drewN n) b L c := h
theorem MapAt.new (w : World) : MapAt kv (w.alloc (.map #[] 0)) w.heap.size [] 0 := by
  unfold MapAt; rw [heap_alloc_new]; rfl
theorem mapAt_setBlock {L' : List (MEnt κ)} {c' : Nat} (h : b < w.heap.size) : MapAt kv (setBlock w b (.map (L'.map (MEnt.ent kv)).toArray c')) b L' c' := by
  unfold MapAt setBlock
  simp [h]
theorem setBlock_other (o : Obj) {w : World} {b k : Nat} (h : k ≠ b) : (setBlock w b o).heap[k]? = w.heap[k]? := by
  unfold setBlock
  simp only
  rw [Array.getElem?_setIfInBounds_ne (fun e => h e.symm)]
end

section
variable {κ : Type} [DecidableEq κ]

def lkE (k : κ) : List (MEnt κ) → Nat → Option (Nat × Value)
  | [], _ => none
  | e :: L, i => if k = e.k then some (i, e.v) else lkE k L (i + 1)

def lkV (k : κ) : List (MEnt κ) → Option Value
  | [] => none
  | e :: L => if k = e.k then some e.v else lkV k L

def putE (k : κ) (v : Value) (c : Nat) : List (MEnt κ) → List (MEnt κ)
  | [] => [⟨k, v, c⟩]
  | e :: L => if k = e.k then ⟨e.k, v, e.b⟩ :: L else e :: putE k v c L

def clkE (k : κ) (L : List (MEnt κ)) (c : Nat) : Nat := if (lkV k L).isSome then c else c + 1

def delE (k : κ) : List (MEnt κ) → List (MEnt κ)
  | [] => []
  | e :: L => if k = e.k then L else e :: delE k L

theorem lkE_none {k : κ} {L : List (MEnt κ)} : ∀ {i : Nat}, lkE k L i = none ↔ lkV k L = none := by
  induction L with
  | nil => intro i; simp [lkE, lkV]
  | cons e L ih => intro i; simp only [lkE, lkV]; split <;> simp [ih]

theorem lkE_val {k : κ} {L : List (MEnt κ)} : ∀ {i : Nat}, (lkE k L i).map (·.2) = lkV k L := by
  induction L with
  | nil => intro i; simp [lkE, lkV]
  | cons e L ih => intro i; simp only [lkE, lkV]; split <;> simp [ih]

theorem lkE_some {k : κ} {L : List (MEnt κ)} : ∀ {i j : Nat} {v : Value}, lkE k L i = some (j, v) →
    ∃ p, j = i + p ∧ p < L.length ∧ (∀ (kv : κ → Value) (x : Value), ((L.map (MEnt.ent kv)).modify p fun e => { e with key := kv k, val := x }) = (putE k x 0 L).map (MEnt.ent kv)) ∧
      (∀ (kv : κ → Value), ((L.map (MEnt.ent kv))[p]?).map (·.key) = some (kv k)) ∧ (∀ (kv : κ → Value), (L.map (MEnt.ent kv)).eraseIdx p = (delE k L).map (MEnt.ent kv)) := by
  induction L with
  | nil => intro i j v h; simp [lkE] at h
  | cons e L ih =>
    intro i j v h
    simp only [lkE] at h
    split at h
    · rename_i hk
      simp only [Option.some.injEq, Prod.mk.injEq] at h
      subst hk
      refine ⟨0, by omega, by simp, ?_, ?_, ?_⟩
      · intro kv x; simp [putE, MEnt.ent]
      · intro kv; simp [MEnt.ent]
      · intro kv; simp [delE]
    · rename_i hk
      obtain ⟨p, h1, h2, h3, h4, h5⟩ := ih h
      refine ⟨p + 1, by omega, by simp; omega, ?_, ?_, ?_⟩
      · intro kv x; simp only [List.map_cons, List.modify_succ_cons, putE, if_neg hk, h3 kv x]
      · intro kv; simpa using h4 kv
      · intro kv; simp only [List.map_cons, List.eraseIdx_cons_succ, delE, if_neg hk, h5 kv]

theorem putE_some {k : κ} {L : List (MEnt κ)} {v : Value} (h : (lkV k L).isSome) (c c' : Nat) : putE k v c L = putE k v c' L := by
  induction L with
  | nil => simp [lkV] at h
  | cons e L ih =>
    simp only [putE, lkV] at h ⊢
    split
    · rfl
    · rename_i hk; rw [if_neg hk] at h; rw [ih h]

theorem putE_none {k : κ} {L : List (MEnt κ)} {v : Value} {c : Nat} (h : lkV k L = none) : putE k v c L = L ++ [⟨k, v, c⟩] := by
  induction L with
  | nil => rfl
  | cons e L ih =>
    simp only [putE, lkV] at h ⊢
    split
    · rename_i hk; rw [if_pos hk] at h; simp at h
    · rename_i hk; rw [if_neg hk] at h; simp [ih h]

theorem delE_none {k : κ} {L : List (MEnt κ)} (h : lkV k L = none) : delE k L = L := by
  induction L with
  | nil => rfl
  | cons e L ih =>
    simp only [delE, lkV] at h ⊢
    split
    · rename_i hk; rw [if_pos hk] at h; simp at h
    · rename_i hk; rw [if_neg hk] at h; simp [ih h]

theorem lkV_put {k k' : κ} {L : List (MEnt κ)} {v : Value} {c : Nat} : lkV k' (putE k v c L) = if k' = k then some v else lkV k' L := by
  induction L with
  | nil => simp [putE, lkV]
  | cons e L ih =>
    simp only [putE]
    split
    · rename_i hk
      subst hk
      simp only [lkV]
      split <;> simp
    · rename_i hk
      simp only [lkV, ih]
      split
      · rename_i h; subst h; rw [if_neg (fun h => hk h.symm)]
      · rfl

/-- What the key's type must bear: proved once for a type. -/
structure KeyOps (P : Program) (K : TypeId) (kv : κ → Value) : Prop where
  check : ∀ (e : Bool) (k : κ) (w : World), (Instr.checkKey e 10000 K (kv k)).run P w = .ok () w
  find : ∀ (k : κ) (L : List (MEnt κ)) (w : World), (Instr.findKey K (kv k) (L.map (MEnt.ent kv))).run P w = .ok (lkE k L 0) w
  stays : ∀ (k : κ) (w : World), (Instr.keyThatStays (kv k) (kv k)).run P w = .ok (kv k) w

variable {P : Program} {K : TypeId} {kv : κ → Value} {w : World} {b c : Nat} {L : List (MEnt κ)}

theorem run_look (ko : KeyOps P K kv) {T E : TypeId} (ht : P.underlying T = some (.map K E)) {z : Value} (hz : ∀ w, (zeroValue E).run P w = .ok z w) (h : MapAt kv w b L c) (k : κ) :
    (Instr.lookup T (.map (some b)) (kv k) false).run P w = .ok ((lkV k L).getD z) w := by
  unfold MapAt at h
  simp only [Instr.lookup, Sem.run_bind, run_underlying ht, Result.andThen_ok, getObj, Sem.run, h, Sem.run_pure, ko.check, ko.find]
  rw [← lkE_val (i := 0)]
  cases lkE k L 0 with
  | none => simp [hz]
  | some x => simp

theorem run_look_ok (ko : KeyOps P K kv) {T E : TypeId} (ht : P.underlying T = some (.map K E)) {z : Value} (hz : ∀ w, (zeroValue E).run P w = .ok z w) (h : MapAt kv w b L c) (k : κ) :
    (Instr.lookup T (.map (some b)) (kv k) true).run P w = .ok (.tuple #[(lkV k L).getD z, .bool (lkV k L).isSome]) w := by
  unfold MapAt at h
  simp only [Instr.lookup, Sem.run_bind, run_underlying ht, Result.andThen_ok, getObj, Sem.run, h, Sem.run_pure, ko.check, ko.find]
  rw [← lkE_val (i := 0)]
  cases lkE k L 0 with
  | none => simp [hz]
  | some x => simp

theorem run_store_map (ko : KeyOps P K kv) {T E : TypeId} (ht : P.underlying T = some (.map K E)) (h : MapAt kv w b L c) (k : κ) (v : Value) :
    (Instr.mapUpdate T (.map (some b)) (kv k) v).run P w = .ok () (setBlock w b (.map ((putE k v c L).map (MEnt.ent kv)).toArray (clkE k L c))) := by
  have h0 := h
  unfold MapAt at h
  simp only [Instr.mapUpdate, Sem.run_bind, run_underlying ht, Result.andThen_ok, getObj, Sem.run, h, Sem.run_pure, ko.check, ko.find]
  cases hl : lkE k L 0 with
  | none =>
    have hv := lkE_none.1 hl
    simp only [clkE, hv, Option.isSome_none, Bool.false_eq_true, if_false, putE_none hv]
    simp [setObj, Sem.run, h, setBlock, MEnt.ent]
  | some x =>
    obtain ⟨j, u⟩ := x
    obtain ⟨p, h1, h2, h3, h4, _⟩ := lkE_some hl
    have hj : j = p := by omega
    subst hj
    have hs : (lkV k L).isSome = true := by rw [← lkE_val (i := 0), hl]; rfl
    have e1 : (((L.map (MEnt.ent kv)).toArray[j]?).map (·.key)).getD (kv k) = kv k := by
      rw [List.getElem?_toArray, h4 kv]; rfl
    simp only [Sem.run_bind, e1, ko.stays, Result.andThen_ok, clkE, hs, if_true]
    simp only [setObj, Sem.run, h, List.modify_toArray, h3 kv v, putE_some hs 0 c, setBlock]

theorem run_drop (ko : KeyOps P K kv) {T E ty : TypeId} {TT : Array TypeId} (ht : P.underlying T = some (.map K E)) (hT : TT[0]? = some T) (h : MapAt kv w b L c) (k : κ) :
    (Builtin.delete_ TT ty #[.map (some b), kv k]).run P w = .ok (.tuple #[]) (setBlock w b (.map ((delE k L).map (MEnt.ent kv)).toArray c)) := by
  unfold MapAt at h
  simp only [Builtin.delete_, hT, Sem.run_bind, run_underlying ht, Result.andThen_ok, getObj, Sem.run, h, Sem.run_pure, ko.check, ko.find, List.getElem?_toArray, List.getElem?_cons_zero, List.getElem?_cons_succ]
  cases hl : lkE k L 0 with
  | none =>
    have hv := lkE_none.1 hl
    simp [setObj, Sem.run, h, setBlock, delE_none hv]
  | some x =>
    obtain ⟨j, u⟩ := x
    obtain ⟨p, h1, h2, h3, h4, h5⟩ := lkE_some hl
    have hj : j = p := by omega
    subst hj
    simp [setObj, Sem.run, h, setBlock, ← h5 kv, Array.eraseIdxIfInBounds, h2]

end

section
variable {κ : Type} [DecidableEq κ] {P : Program} {K : TypeId} {kv : κ → Value} {b c : Nat} {L : List (MEnt κ)}
variable {ops : Array Oper} {rest : List Oper} {o : Oper} {a : Act} {Q : Exit → Act → World → Prop} (w : World)

theorem wpList_look_at (hg : o.guard = none) (m x : Operand) (T : TypeId) (hop : o.op = Op.lookup T m x false) (E : TypeId) (ko : KeyOps P K kv) (ht : P.underlying T = some (.map K E))
    (z : Value) (hz : ∀ w, (zeroValue E).run P w = .ok z w) (hm : a.eval m = .map (some b)) (hat : MapAt kv w b L c) (k : κ) (hx : a.eval x = kv k)
    (hK : wpList P ops Q rest (a.put o.dst ((lkV k L).getD z)) w) : wpList P ops Q (o :: rest) a w := by
  refine wpList_plain hg fun K' hK' => ?_
  unfold Oper.wp
  simp [execOp, hop, hm, hx, run_look ko ht hz hat k, Result.andThen]
  exact hK' _ _ hK

theorem wpList_look_ok_at (hg : o.guard = none) (m x : Operand) (T : TypeId) (hop : o.op = Op.lookup T m x true) (E : TypeId) (ko : KeyOps P K kv) (ht : P.underlying T = some (.map K E))
    (z : Value) (hz : ∀ w, (zeroValue E).run P w = .ok z w) (hm : a.eval m = .map (some b)) (hat : MapAt kv w b L c) (k : κ) (hx : a.eval x = kv k)
    (hK : wpList P ops Q rest (a.put o.dst (.tuple #[(lkV k L).getD z, .bool (lkV k L).isSome])) w) : wpList P ops Q (o :: rest) a w := by
  refine wpList_plain hg fun K' hK' => ?_
  unfold Oper.wp
  simp [execOp, hop, hm, hx, run_look_ok ko ht hz hat k, Result.andThen]
  exact hK' _ _ hK

theorem setBlock_grown (w : World) (b : Nat) (o : Obj) : w.grownBy (setBlock w b o) (some b) :=
  ⟨rfl, rfl, rfl, by simp [setBlock], fun k _ hk => setBlock_other o (fun e => hk (by rw [e]))⟩

theorem wpList_store_at (hg : o.guard = none) (m x v : Operand) (T : TypeId) (hop : o.op = Op.mapUpdate T m x v) (E : TypeId) (ko : KeyOps P K kv) (ht : P.underlying T = some (.map K E))
    (hm : a.eval m = .map (some b)) (hat : MapAt kv w b L c) (k : κ) (hx : a.eval x = kv k) (val : Value) (hv : a.eval v = val)
    (hK : ∀ w' c', MapAt kv w' b (putE k val c L) c' → w.grownBy w' (some b) → wpList P ops Q rest (a.put o.dst undef) w') : wpList P ops Q (o :: rest) a w := by
  refine wpList_plain hg fun K' hK' => ?_
  unfold Oper.wp
  simp [execOp, hop, hm, hx, hv, run_store_map ko ht hat k val, Result.andThen]
  exact hK' _ _ (hK _ _ (mapAt_setBlock hat.lt) (setBlock_grown w b _))
end

/-- Keys that are structs of two ints. -/
def pairV (x : Int × Int) : Value := .agg #[.int .i64 x.1, .int .i64 x.2]

theorem findAsking_of {κ : Type} [DecidableEq κ] {P : Program} {K : TypeId} {kv : κ → Value} (heq : ∀ (x y : κ) (w : World), (Op.equal K (kv x) (kv y)).run P w = .ok (decide (x = y)) w) (k : κ) (L : List (MEnt κ)) (w : World) :
    ∀ i, (Instr.findAsking K (kv k) (L.map (MEnt.ent kv)) i).run P w = .ok (lkE k L i) w := by
  induction L with
  | nil => intro i; rfl
  | cons e L ih =>
    intro i
    simp only [List.map_cons, Instr.findAsking, Sem.run_bind, MEnt.ent, heq, Result.andThen_ok, lkE]
    by_cases h : k = e.k
    · simp [h]
    · simp [h, ← ih (i + 1), MEnt.ent]

theorem findKey_struct {κ : Type} [DecidableEq κ] {P : Program} {K : TypeId} {kv : κ → Value} {fs : Array Field} (hu : P.underlying K = some (.struct fs)) (heq : ∀ (x y : κ) (w : World), (Op.equal K (kv x) (kv y)).run P w = .ok (decide (x = y)) w) (k : κ) (L : List (MEnt κ)) (w : World) :
    (Instr.findKey K (kv k) (L.map (MEnt.ent kv))).run P w = .ok (lkE k L 0) w := by
  simp only [Instr.findKey, Sem.run_bind, run_underlying hu, Result.andThen_ok]
  cases L with
  | nil => rfl
  | cons e L =>
    have : Instr.findNow (.struct fs) (kv k) ((e :: L).map (MEnt.ent kv)) 0 = none := by
      simp [Instr.findNow, Instr.sameNow]
    rw [this]
    exact findAsking_of heq k (e :: L) w 0

theorem pair_stays (P : Program) (x : Int × Int) (w : World) : (Instr.keyThatStays (pairV x) (pairV x)).run P w = .ok (pairV x) w := by
  have : Instr.sameBits 10000 (pairV x) (pairV x) = true := by
    simp [pairV, Instr.sameBits]
  simp [Instr.keyThatStays, this]

theorem pair_keyOps {P : Program} {K : TypeId} {fs : Array Field} (hu : P.underlying K = some (.struct fs)) (hc : ∀ (e : Bool) (x : Int × Int) (w : World), (Instr.checkKey e 10000 K (pairV x)).run P w = .ok () w)
    (heq : ∀ (x y : Int × Int) (w : World), (Op.equal K (pairV x) (pairV y)).run P w = .ok (decide (x = y)) w) : KeyOps P K pairV :=
  ⟨hc, fun k L w => findKey_struct hu heq k L w, fun x w => pair_stays P x w⟩
end Go.Proofs.YthokoimoiamddaaGreatDoor
set_option linter.unusedSimpArgs false
set_option linter.unusedVariables false
namespace Go.Proofs.YthokoimoiamddaaGreatDoor
open Go Go.RowKit
open Go.ChangeMaps (setBlock)

/-- The births: each below the clock, no two alike; no key twice. -/
structure MWf {κ : Type} (L : List (MEnt κ)) (c : Nat) : Prop where
  lt : ∀ e ∈ L, e.b < c
  nd : (L.map (·.b)).Nodup
  keys : (L.map (·.k)).Nodup

theorem MWf.nil {κ : Type} (c : Nat) : MWf ([] : List (MEnt κ)) c := ⟨by simp, by simp, by simp⟩

section
variable {κ : Type} [DecidableEq κ]

theorem lkV_none {k : κ} {L : List (MEnt κ)} : lkV k L = none ↔ k ∉ L.map (·.k) := by
  induction L with
  | nil => simp [lkV]
  | cons e L ih =>
    simp only [lkV]
    split
    · rename_i h; simp [h]
    · rename_i h; rw [ih]; simp [h]

theorem putE_births {k : κ} {v : Value} {c : Nat} {L : List (MEnt κ)} (h : (lkV k L).isSome) : (putE k v c L).map (·.b) = L.map (·.b) ∧ (putE k v c L).map (·.k) = L.map (·.k) := by
  induction L with
  | nil => simp [lkV] at h
  | cons e L ih =>
    simp only [putE]
    simp only [lkV] at h
    split
    · simp
    · rename_i hk
      rw [if_neg hk] at h
      simp [ih h]

theorem MWf.put {k : κ} {v : Value} {c : Nat} {L : List (MEnt κ)} (h : MWf L c) : MWf (putE k v c L) (clkE k L c) := by
  cases hl : lkV k L with
  | none =>
    rw [putE_none hl]
    have hk := lkV_none.1 hl
    simp only [clkE, hl, Option.isSome_none, Bool.false_eq_true, if_false]
    refine ⟨?_, ?_, ?_⟩
    · intro e he
      rcases List.mem_append.1 he with he | he
      · exact Nat.lt_succ_of_lt (h.lt e he)
      · obtain rfl : e = ⟨k, v, c⟩ := by simpa using he
        exact Nat.lt_succ_self _
    · simp only [List.map_append, List.map_cons, List.map_nil]
      refine List.nodup_append.2 ⟨h.nd, by simp, ?_⟩
      intro a ha b hb
      obtain ⟨e, he, rfl⟩ := List.mem_map.1 ha
      obtain rfl : b = c := by simpa using hb
      exact Nat.ne_of_lt (h.lt e he)
    · simp only [List.map_append, List.map_cons, List.map_nil]
      refine List.nodup_append.2 ⟨h.keys, by simp, ?_⟩
      intro a ha b hb
      obtain rfl : b = k := by simpa using hb
      exact fun e => hk (e ▸ ha)
  | some u =>
    have hs : (lkV k L).isSome = true := by simp [hl]
    simp only [clkE, hs, if_true]
    obtain ⟨e1, e2⟩ := putE_births (v := v) (c := c) hs
    refine ⟨?_, by rw [e1]; exact h.nd, by rw [e2]; exact h.keys⟩
    intro e he
    have : e.b ∈ (putE k v c L).map (·.b) := List.mem_map.2 ⟨e, he, rfl⟩
    rw [e1] at this
    obtain ⟨e', he', hb⟩ := List.mem_map.1 this
    rw [← hb]; exact h.lt e' he'

theorem delE_sub (k : κ) (L : List (MEnt κ)) : (delE k L).Sublist L := by
  induction L with
  | nil => exact List.Sublist.refl _
  | cons e L ih =>
    simp only [delE]
    split
    · exact List.sublist_cons_self _ _
    · exact ih.cons_cons _

theorem MWf.del {k : κ} {c : Nat} {L : List (MEnt κ)} (h : MWf L c) : MWf (delE k L) c :=
  ⟨fun e he => h.lt e ((delE_sub k L).subset he), ((delE_sub k L).map _).nodup h.nd, ((delE_sub k L).map _).nodup h.keys⟩

theorem lkV_del {k k' : κ} {c : Nat} {L : List (MEnt κ)} (h : MWf L c) : lkV k' (delE k L) = if k' = k then none else lkV k' L := by
  have hn := h.keys
  clear h
  induction L with
  | nil => simp [delE, lkV]
  | cons e L ih =>
    simp only [List.map_cons, List.nodup_cons] at hn
    simp only [delE]
    split
    · rename_i hk
      subst hk
      split
      · rename_i h; subst h; exact lkV_none.2 hn.1
      · rename_i h; simp [lkV, h]
    · rename_i hk
      simp only [lkV, ih hn.2]
      split
      · rename_i h; subst h; rw [if_neg (fun h => hk h.symm)]
      · rfl

theorem lkV_mem {k : κ} {v : Value} {L : List (MEnt κ)} (h : lkV k L = some v) : ∃ e ∈ L, e.k = k ∧ e.v = v := by
  induction L with
  | nil => simp [lkV] at h
  | cons e L ih =>
    simp only [lkV] at h
    split at h
    · rename_i hk; exact ⟨e, by simp, hk.symm, by simpa using h⟩
    · obtain ⟨e', h1, h2⟩ := ih h; exact ⟨e', by simp [h1], h2⟩

theorem lkV_of_mem {c : Nat} {L : List (MEnt κ)} (h : MWf L c) {e : MEnt κ} (he : e ∈ L) : lkV e.k L = some e.v := by
  have hn := h.keys
  clear h
  induction L with
  | nil => simp at he
  | cons a L ih =>
    simp only [List.map_cons, List.nodup_cons] at hn
    simp only [lkV]
    rcases List.mem_cons.1 he with rfl | he
    · simp
    · rw [if_neg (fun h => hn.1 (by rw [← h]; exact List.mem_map.2 ⟨e, he, rfl⟩))]
      exact ih he hn.2
end

theorem inj_of_nodup {α β : Type} {f : α → β} {l : List α} (h : (l.map f).Nodup) {x y : α} (hx : x ∈ l) (hy : y ∈ l) (e : f x = f y) : x = y := by
  induction l with
  | nil => simp at hx
  | cons a l ih =>
    simp only [List.map_cons, List.nodup_cons] at h
    have m : ∀ z, z ∈ l → f z ∈ l.map f := fun z hz => List.mem_map.2 ⟨z, hz, rfl⟩
    rcases List.mem_cons.1 hx with h1 | h1
    · rcases List.mem_cons.1 hy with h2 | h2
      · rw [h1, h2]
      · exact absurd (by rw [← h1, e]; exact m y h2) h.1
    · rcases List.mem_cons.1 hy with h2 | h2
      · exact absurd (by rw [← h2, ← e]; exact m x h1) h.1
      · exact ih h.2 h1 h2

theorem nodup_of_map {α β : Type} (f : α → β) {l : List α} (h : (l.map f).Nodup) : l.Nodup := by
  induction l with
  | nil => exact List.nodup_nil
  | cons a l ih =>
    simp only [List.map_cons, List.nodup_cons] at h
    exact List.nodup_cons.2 ⟨fun ha => h.1 (List.mem_map.2 ⟨a, ha, rfl⟩), ih h.2⟩

theorem split_mem {α : Type} {a : α} : ∀ {m : List α}, a ∈ m → ∃ m1 m2, m = m1 ++ a :: m2
  | b :: m, h => by
    rcases List.mem_cons.1 h with rfl | h
    · exact ⟨[], m, rfl⟩
    · obtain ⟨m1, m2, rfl⟩ := split_mem h
      exact ⟨b :: m1, m2, rfl⟩

theorem subset_perm {α : Type} {l m : List α} (hl : l.Nodup) (hm : m.Nodup) (h : ∀ x ∈ l, x ∈ m) : ∃ r, m.Perm (l ++ r) := by
  induction l generalizing m with
  | nil => exact ⟨m, List.Perm.refl _⟩
  | cons a l ih =>
    obtain ⟨m1, m2, rfl⟩ := split_mem (h a (by simp))
    have hp : (m1 ++ a :: m2).Perm (a :: (m1 ++ m2)) := List.perm_middle
    have hm' := (hp.nodup_iff).1 hm
    obtain ⟨ha, hm''⟩ := List.nodup_cons.1 hm'
    obtain ⟨hal, hl'⟩ := List.nodup_cons.1 hl
    obtain ⟨r, hr⟩ := ih hl' hm'' (fun x hx => by
      have := (hp.mem_iff).1 (h x (by simp [hx]))
      rcases List.mem_cons.1 this with rfl | h'
      · exact absurd hx hal
      · exact h')
    exact ⟨r, hp.trans (hr.cons a)⟩

section
variable {κ : Type} {kv : κ → Value} {P : Program} {w : World} {b c r : Nat} {L dn : List (MEnt κ)}

/-- A range over the map of block b is under way: its iterator lies in block r, the keys 'dn' have come. -/
def IterAt (kv : κ → Value) (w : World) (b r : Nat) (L : List (MEnt κ)) (c : Nat) (dn : List (MEnt κ)) : Prop :=
  MapAt kv w b L c ∧ MWf L c ∧ w.heap[r]? = some (.mapIter (some b) c (dn.map (·.b)).toArray c) ∧ dn.Nodup ∧ ∀ e ∈ dn, e ∈ L

theorem IterAt.ne (h : IterAt kv w b r L c dn) : r ≠ b := by
  obtain ⟨h1, _, h3, _⟩ := h
  intro e; unfold MapAt at h1; rw [e, h1] at h3; cases h3
theorem IterAt.walk (h : IterAt kv w b r L c dn) : ∃ o : Obj, w.heap[r]? = some o ∧ o.isWalk = true := ⟨_, h.2.2.1, rfl⟩
theorem IterAt.ofEq {w' : World} (h : IterAt kv w b r L c dn) (h1 : w'.heap[b]? = w.heap[b]?) (h2 : w'.heap[r]? = w.heap[r]?) : IterAt kv w' b r L c dn :=
  ⟨h1.trans h.1, h.2.1, h2.trans h.2.2.1, h.2.2.2⟩
theorem IterAt.lt (h : IterAt kv w b r L c dn) : r < w.heap.size := (Array.getElem?_eq_some_iff.1 h.2.2.1).1

theorem IterAt.le (h : IterAt kv w b r L c dn) : dn.length ≤ L.length := by
  have h' := h
  obtain ⟨_, _, _, h4, h5⟩ := h'
  obtain ⟨_, hw, _⟩ := h
  obtain ⟨r, hr⟩ := subset_perm h4 (nodup_of_map _ hw.nd) h5
  have := hr.length_eq
  simp at this
  omega

/-- 'range m'. -/
theorem run_range_at {T K E : TypeId} (ht : P.underlying T = some (.map K E)) (h : MapAt kv w b L c) (hw : MWf L c) :
    (Instr.range T (.map (some b))).run P w = .ok (.pointer (some ⟨w.heap.size, 0, none⟩)) (w.alloc (.mapIter (some b) c #[] c)) ∧ IterAt kv (w.alloc (.mapIter (some b) c #[] c)) b w.heap.size L c [] :=
  ⟨run_range_map w T K E b _ c ht h, h.alloc _, hw, heap_alloc_new w _, by simp, by simp⟩

theorem left_mem {es : List (MEnt κ)} {dn : List (MEnt κ)} {e : MapEntry} (he : e ∈ (leftOf (es.map (MEnt.ent kv)).toArray (dn.map (·.b)).toArray).toList) :
    ∃ x ∈ es, e = x.ent kv ∧ x ∉ dn := by
  obtain ⟨h1, h2⟩ := mem_left he
  obtain ⟨x, hx, rfl⟩ := List.mem_map.1 (by simpa using h1)
  refine ⟨x, hx, rfl, fun hd => ?_⟩
  have : (dn.map (·.b)).toArray.contains x.b = true := by simp; exact ⟨x, hd, rfl⟩
  exact absurd (h2.symm.trans this) (by simp)

/-- The step. -/
theorem run_next_it (h : IterAt kv w b r L c dn) (ty : TypeId) :
    (dn.Perm L ∧ (Instr.next (.pointer (some ⟨r, 0, none⟩)) false ty).run P w = .ok (.tuple #[.bool false]) w) ∨
    ∃ e ∈ L, e ∉ dn ∧ ∃ w', (Instr.next (.pointer (some ⟨r, 0, none⟩)) false ty).run P w = .ok (.tuple #[.bool true, kv e.k, e.v]) w' ∧ IterAt kv w' b r L c (dn ++ [e]) ∧ w.grownBy w' (some r) ∧ w'.heap.size = w.heap.size ∧
      (Instr.entry (.pointer (some ⟨r, 0, none⟩))).run P w' = .ok (.tuple #[kv e.k, e.v]) w' := by
  have hne := h.ne
  obtain ⟨h1, h2, h3, h4, h5⟩ := h
  have hbl := h1.lt
  have hrl : r < w.heap.size := (Array.getElem?_eq_some_iff.1 h3).1
  rcases run_next_at (P := P) w ty r b c c (dn.map (·.b)).toArray _ c h3 h1 (by
      intro x hx
      obtain ⟨e, he, rfl⟩ := List.mem_map.1 (by simpa using hx)
      exact h2.lt e he) (Nat.le_refl _) with ⟨hz, hrun⟩ | ⟨e, he, w1, hw1, hrun⟩
  · refine .inl ⟨?_, hrun⟩
    have hall := all_seen _ _ hz
    have hsub : ∀ e ∈ L, e ∈ dn := by
     intro e he
     have := hall (e.ent kv) (by simp; exact ⟨e, he, rfl⟩)
     obtain ⟨e', he', hb⟩ : ∃ e' ∈ dn, e'.b = e.b := by simpa [MEnt.ent] using this
     have : e' = e := inj_of_nodup h2.nd (h5 e' he') he hb
     exact this ▸ he'
    obtain ⟨r', hr'⟩ := subset_perm (nodup_of_map _ h2.nd) h4 hsub
    obtain ⟨r'', hr''⟩ := subset_perm h4 (nodup_of_map _ h2.nd) h5
    have e1 := hr'.length_eq
    have e2 := hr''.length_eq
    simp only [List.length_append] at e1 e2
    have : r' = [] := List.eq_nil_of_length_eq_zero (by omega)
    rw [this, List.append_nil] at hr'
    exact hr'
  · obtain ⟨x, hx, rfl, hxd⟩ := left_mem he
    refine .inr ⟨x, hx, hxd, _, hrun, ?_⟩
    have hs1 : w1.heap = w.heap := by rcases hw1 with rfl | rfl <;> rfl
    have hit : IterAt kv (setBlock w1 r (.mapIter (some b) c ((dn.map (·.b)).toArray.push (x.ent kv).born) c)) b r L c (dn ++ [x]) := by
      refine ⟨?_, h2, ?_, ?_, ?_⟩
      · unfold MapAt at h1 ⊢
        rw [setBlock_other _ (fun e => hne e.symm), hs1]; exact h1
      · simp [setBlock, hs1, hrl, MEnt.ent]
      · exact List.nodup_append.2 ⟨h4, by simp, fun a ha b' hb' e => hxd ((e.trans (List.mem_singleton.1 hb')) ▸ ha)⟩
      · intro e he
        rcases List.mem_append.1 he with he | he
        · exact h5 e he
        · obtain rfl : e = x := by simpa using he
          exact hx
    refine ⟨hit, ?_, by simp [setBlock, hs1], ?_⟩
    · refine ⟨?_, ?_, ?_, by simp [setBlock, hs1], fun k _ hk => (setBlock_other _ (fun e => hk (by rw [e]))).trans (by rw [hs1])⟩ <;> rcases hw1 with rfl | rfl <;> rfl
    · refine run_entry_at _ r b c (dn.map (·.b)).toArray _ c (x.ent kv) ?_ hit.1 (by simp; exact ⟨x, hx, rfl⟩) ?_
      · have := hit.2.2.1
        simpa [MEnt.ent] using this
      · have : (L.map (MEnt.ent kv)).map (·.born) = L.map (·.b) := by simp [MEnt.ent, Function.comp_def]
        simpa [MEnt.ent, Function.comp_def] using h2.nd
end
end Go.Proofs.YthokoimoiamddaaGreatDoor
set_option linter.unusedSimpArgs false
set_option linter.unusedVariables false
namespace Go.Proofs.YthokoimoiamddaaGreatDoor
open Go Go.RowKit

theorem bytes_beq (a b : ByteArray) : (a == b) = decide (a = b) := by
  obtain ⟨a⟩ := a
  obtain ⟨b⟩ := b
  have h : ((⟨a⟩ : ByteArray) == ⟨b⟩) = (a == b) := rfl
  rw [h, Bool.eq_iff_iff]
  simp
theorem str_check (e : Bool) (x : ByteArray) (w : World) : (Instr.checkKey e 10000 9 (.string x)).run Tryz.prog w = .ok () w := by kernel_rfl
theorem str_find (k : ByteArray) (L : List (MEnt ByteArray)) (w : World) : (Instr.findKey 9 (.string k) (L.map (MEnt.ent Value.string))).run Tryz.prog w = .ok (lkE k L 0) w := by
  have h : ∀ (L : List (MEnt ByteArray)) i, Instr.findNow .string (.string k) (L.map (MEnt.ent Value.string)) i = some (lkE k L i) := by
    intro L
    induction L with
    | nil => intro i; rfl
    | cons e L ih =>
      intro i
      simp only [List.map_cons, Instr.findNow, MEnt.ent, Instr.sameNow, lkE]
      by_cases h : k = e.k
      · simp [h, bytes_beq]
      · have h2 : (k == e.k) = false := by rw [bytes_beq]; simpa using h
        rw [h2]
        simp only [if_neg h]
        exact ih (i + 1)
  simp only [Instr.findKey, Sem.run_bind, run_underlying Tryz.underlying9, Result.andThen_ok, h]
  rfl
theorem str_stays (k : ByteArray) (w : World) : (Instr.keyThatStays (.string k) (.string k)).run Tryz.prog w = .ok (.string k) w := by
  have : Instr.sameBits 10000 (.string k) (.string k) = true := by simp [Instr.sameBits, bytes_beq]
  simp [Instr.keyThatStays, this]
theorem str_keys : KeyOps Tryz.prog 9 Value.string := ⟨str_check, str_find, str_stays⟩
end Go.Proofs.YthokoimoiamddaaGreatDoor
set_option linter.unusedSimpArgs false
set_option linter.unusedVariables false
namespace Go.Proofs.YthokoimoiamddaaGreatDoor
open Go Go.RowKit

def byteV (b : UInt8) : Value := .int .u8 b.toNat
def byteVs (bs : List UInt8) : List Value := bs.map byteV
def pieceCells (l : List (Int × Int)) : List Value := l.flatMap fun x => [.int .i64 x.1, .int .i64 x.2]
theorem pieceCells_append (l m : List (Int × Int)) : pieceCells (l ++ m) = pieceCells l ++ pieceCells m := by simp [pieceCells]
theorem pieceCells_one (x : Int × Int) : pieceCells [x] = [.int .i64 x.1, .int .i64 x.2] := rfl

/-- A file: its block, its two slices, its bytes and loose pieces (turn, number). -/
structure FRec where
  F : Nat
  dv : Value
  lv : Value
  data : List UInt8
  loose : List (Int × Int)

/-- Bytes in a row of the disk's own; the slice may be cut short of its block. -/
def DRow (w : World) (v : Value) (bs : List UInt8) : Prop := (v = .slice none 0 0 ∧ bs = []) ∨ ∃ g cap cur, v = .slice (some ⟨g, 0, none⟩) bs.length cap ∧ w.heap[g]? = some (.cells cur 5 (0, 0)) ∧ bs.length ≤ cap ∧ cap ≤ cur.size ∧ cap ≤ maxLen ∧ cur.toList.take bs.length = byteVs bs

structure St where
  B : Nat
  M : Nat
  c : Nat
  L : List (MEnt ByteArray)
  R : ByteArray → Option FRec
  turn : Int

def FRec.blocks (r : FRec) (g : Nat) : Prop := g = r.F ∨ r.dv.ownBlock = some g ∨ r.lv.ownBlock = some g
def St.own (s : St) (g : Nat) : Prop := g = s.B ∨ g = s.M ∨ ∃ k r, s.R k = some r ∧ r.blocks g
def ptrF (r : FRec) : Value := .pointer (some ⟨r.F, 0, none⟩)
def openOf (l : List (Int × Int)) : Int := (l.map (·.2)).sum

structure RecOK (w : World) (r : FRec) : Prop where
  blk : w.heap[r.F]? = some (.cells #[r.dv, r.lv] 83 (0, 0))
  data : DRow w r.dv r.data
  loose : w.ownsRow 0 86 2 r.lv r.loose.length (pieceCells r.loose)
  few : r.data.length ≤ 1048576
  pos : ∀ p ∈ r.loose, 0 < p.2
  sum : openOf r.loose ≤ r.data.length

structure DiskAt (base : Nat) (w : World) (s : St) : Prop where
  blk : w.heap[s.B]? = some (.cells #[.map (some s.M), .int .i64 s.turn] 60 (0, 0))
  map : MapAt Value.string w s.M s.L s.c
  wf : MWf s.L s.c
  lk : ∀ k, lkV k s.L = (s.R k).map ptrF
  recs : ∀ k r, s.R k = some r → RecOK w r
  apart : ∀ k k' r r' g, k ≠ k' → s.R k = some r → s.R k' = some r' → r.blocks g → ¬ r'.blocks g
  low : ∀ g, s.own g → base ≤ g
  few : s.L.length ≤ 64
  turn0 : 0 ≤ s.turn
  turns : ∀ (k : ByteArray) (r : FRec) (p : Int × Int), s.R k = some r → p ∈ r.loose → 0 < p.1 ∧ p.1 ≤ s.turn
  uniq : ∀ (k k' : ByteArray) (r r' : FRec) (i j : Nat) (p p' : Int × Int), s.R k = some r → s.R k' = some r' → r.loose[i]? = some p → r'.loose[j]? = some p' → p.1 = p'.1 → k = k' ∧ i = j

/-- What a call on a disk leaves as it was. -/
structure Frame (s s' : St) (w w' : World) : Prop where
  os : w'.os = w.os
  tape : w'.tape = w.tape
  output : w'.output = w.output
  size : w.heap.size ≤ w'.heap.size
  block : ∀ g, g < w.heap.size → ¬ s.own g → w'.heap[g]? = w.heap[g]?
  own : ∀ g, s'.own g → s.own g ∨ w.heap.size ≤ g

theorem Frame.trans {a b c : St} {w w' w'' : World} (h : Frame a b w w') (k : Frame b c w' w'') : Frame a c w w'' := by
  refine ⟨k.os.trans h.os, k.tape.trans h.tape, k.output.trans h.output, Nat.le_trans h.size k.size, fun g hg ho => ?_, fun g hg => ?_⟩
  · refine (k.block g (Nat.lt_of_lt_of_le hg h.size) fun hb => ?_).trans (h.block g hg ho)
    rcases h.own g hb with hb | hb
    · exact ho hb
    · omega
  · rcases k.own g hg with hb | hb
    · exact h.own g hb
    · exact .inr (Nat.le_trans h.size hb)
theorem Frame.of_below {s : St} {w w' : World} (h : Below w.heap.size w w') : Frame s s w w' :=
  ⟨h.os, h.tape, h.output, h.size, fun g hg _ => h.block g hg, fun g hg => .inl hg⟩
theorem Frame.refl (s : St) (w : World) : Frame s s w w := Frame.of_below (Below.refl _ w)

section
variable {base : Nat} {w w' : World} {s s' : St}
theorem DiskAt.below_of (h : DiskAt base w s) (hf : Frame s s' w w') (hb : base ≤ w.heap.size) : Below base w w' :=
  ⟨hf.os, hf.tape, hf.output, hf.size, fun g hg => hf.block g (by omega) fun ho => by have := h.low g ho; omega⟩

theorem DRow.keep {v : Value} {bs : List UInt8} (h : DRow w v bs) (hk : ∀ g, v.ownBlock = some g → w'.heap[g]? = w.heap[g]?) : DRow w' v bs := by
  rcases h with h | ⟨g, cap, cur, hv, hh, r⟩
  · exact .inl h
  · exact .inr ⟨g, cap, cur, hv, by rw [hk g (by rw [hv]; rfl)]; exact hh, r⟩
theorem ownsRow_keep {base : Nat} {e : TypeId} {size n : Nat} {v : Value} {xs : List Value} (h : w.ownsRow base e size v n xs)
    (hk : ∀ g, v.ownBlock = some g → w'.heap[g]? = w.heap[g]?) : w'.ownsRow base e size v n xs := by
  refine ⟨h.1, ?_⟩
  rcases h.2 with h2 | ⟨g, cap, cur, hv, hg, hh, r⟩
  · exact .inl h2
  · exact .inr ⟨g, cap, cur, hv, hg, by rw [hk g (by rw [hv]; rfl)]; exact hh, r⟩
theorem RecOK.keep {r : FRec} (h : RecOK w r) (hk : ∀ g, r.blocks g → w'.heap[g]? = w.heap[g]?) : RecOK w' r :=
  ⟨(hk _ (.inl rfl)).trans h.blk, h.data.keep fun g hg => hk g (.inr (.inl hg)), ownsRow_keep h.loose fun g hg => hk g (.inr (.inr hg)), h.few, h.pos, h.sum⟩

theorem DiskAt.keep (h : DiskAt base w s) (hk : ∀ g, s.own g → w'.heap[g]? = w.heap[g]?) : DiskAt base w' s :=
  ⟨(hk _ (.inl rfl)).trans h.blk, (hk _ (.inr (.inl rfl))).trans h.map, h.wf, h.lk, fun k r hr => (h.recs k r hr).keep fun g hg => hk g (.inr (.inr ⟨k, r, hr, hg⟩)), h.apart, h.low, h.few, h.turn0, h.turns, h.uniq⟩

theorem own_block {base : Nat} {e : TypeId} {size n : Nat} {v : Value} {xs : List Value} (h : w.ownsRow base e size v n xs) {g : Nat} (hg : v.ownBlock = some g) : ∃ cur, w.heap[g]? = some (.cells cur e (0, 0)) ∧ base ≤ g ∧ g < w.heap.size := by
  rcases h.2 with ⟨rfl, _⟩ | ⟨g', cap, cur, rfl, hb, hh, r⟩
  · simp [Value.ownBlock] at hg
  · obtain rfl : g' = g := by simpa [Value.ownBlock] using hg
    exact ⟨cur, hh, hb, (Array.getElem?_eq_some_iff.1 hh).1⟩
theorem DRow.block {v : Value} {bs : List UInt8} (h : DRow w v bs) {g : Nat} (hg : v.ownBlock = some g) : ∃ cur, w.heap[g]? = some (.cells cur 5 (0, 0)) ∧ g < w.heap.size := by
  rcases h with ⟨rfl, _⟩ | ⟨g', cap, cur, rfl, hh, r⟩
  · simp [Value.ownBlock] at hg
  · obtain rfl : g' = g := by simpa [Value.ownBlock] using hg
    exact ⟨cur, hh, (Array.getElem?_eq_some_iff.1 hh).1⟩
theorem RecOK.lt {r : FRec} (h : RecOK w r) {g : Nat} (hg : r.blocks g) : g < w.heap.size := by
  rcases hg with rfl | hg | hg
  · exact (Array.getElem?_eq_some_iff.1 h.blk).1
  · exact (h.data.block hg).choose_spec.2
  · exact (own_block h.loose hg).choose_spec.2.2
theorem DiskAt.lt (h : DiskAt base w s) {g : Nat} (hg : s.own g) : g < w.heap.size := by
  rcases hg with rfl | rfl | ⟨k, r, hr, hg⟩
  · exact (Array.getElem?_eq_some_iff.1 h.blk).1
  · exact h.map.lt
  · exact (h.recs k r hr).lt hg
theorem DiskAt.below (h : DiskAt base w s) (hb : Below w.heap.size w w') : DiskAt base w' s := h.keep fun g hg => hb.block g (h.lt hg)
theorem DiskAt.cells (h : DiskAt base w s) : w.cell? ⟨s.B, 0, none⟩ = some (.map (some s.M)) ∧ w.cell? ⟨s.B, 1, none⟩ = some (.int .i64 s.turn) ∧ ∀ i, w.frozen? ⟨s.B, i, none⟩ = false := by
  refine ⟨by simp [World.cell?, h.blk], by simp [World.cell?, h.blk], fun i => by simp [World.frozen?, h.blk]⟩
theorem RecOK.cells {r : FRec} (h : RecOK w r) : w.cell? ⟨r.F, 0, none⟩ = some r.dv ∧ w.cell? ⟨r.F, 1, none⟩ = some r.lv ∧ ∀ i, w.frozen? ⟨r.F, i, none⟩ = false := by
  refine ⟨by simp [World.cell?, h.blk], by simp [World.cell?, h.blk], fun i => by simp [World.frozen?, h.blk]⟩
end

/-- A new disk. -/
def newSt (w : World) : St := ⟨w.heap.size + 1, w.heap.size, 0, [], fun _ => none, 0⟩
theorem diskAt_new (w : World) : DiskAt w.heap.size ((w.alloc (.map #[] 0)).alloc (.cells #[.map (some w.heap.size), .int .i64 0] 60)) (newSt w) := by
  refine ⟨?_, (MapAt.new w).alloc _, MWf.nil 0, fun k => rfl, fun k r hr => (by cases hr), fun k k' r r' g _ hr => (by cases hr), fun g hg => ?_, by simp [newSt], by simp [newSt], fun k r p hr => (by cases hr), fun k k' r r' i j p p' hr => (by cases hr)⟩
  · have := heap_alloc_new (w.alloc (.map #[] 0)) (.cells #[.map (some w.heap.size), .int .i64 0] 60)
    simpa [newSt] using this
  · rcases hg with rfl | rfl | ⟨k, r, hr, _⟩
    · simp [newSt]
    · simp [newSt]
    · cases hr
end Go.Proofs.YthokoimoiamddaaGreatDoor
set_option linter.unusedSimpArgs false
set_option linter.unusedVariables false
namespace Go.Proofs.YthokoimoiamddaaGreatDoor
open Go Go.RowKit

theorem byte_info : (Tryz.prog.info? 5).map (fun i => (i.zero, i.size, i.bytes)) = some (some (.int .u8 0), 1, 1) := by kernel_rfl
theorem info_parts {o : Option TypeInfo} {z : Option Value} {s b : Nat} (h : o.map (fun i => (i.zero, i.size, i.bytes)) = some (z, s, b)) : ∃ i, o = some i ∧ i.zero = z ∧ i.size = s ∧ i.bytes = b := by
  cases o with
  | none => cases h
  | some i => simp at h; exact ⟨i, rfl, h.1, h.2.1, h.2.2⟩
theorem byteVs_append (a b : List UInt8) : byteVs (a ++ b) = byteVs a ++ byteVs b := by simp [byteVs]
theorem byteVs_len (bs : List UInt8) : (byteVs bs).length = bs.length := by simp [byteVs]
theorem byteVs_one (bs : List UInt8) : ∀ u ∈ byteVs bs, u.oneCell' = true := fun u hu => by
  obtain ⟨b, _, rfl⟩ := List.mem_map.1 hu; rfl

/-- Bytes that came in, or lie wherever. -/
def BytesAt (w : World) (A : Option Addr) (bs : List UInt8) : Prop := (A = none → bs.length = 0) ∧ ∀ ad, A = some ad → ∀ j u, (byteVs bs)[j]? = some u → w.cell? (ad.add j) = some u
theorem BytesAt.below {w w' : World} {A : Option Addr} {bs : List UInt8} (h : BytesAt w A bs) (hb : Below w.heap.size w w') : BytesAt w' A bs :=
  ⟨h.1, fun ad hA j u hu => by
    have hc := h.2 ad hA j u hu
    exact (World.cell?_of_block (w := w) (hb.block _ (World.block_lt_of_cell? w _ hc))).trans hc⟩

theorem DRow.cells {w : World} {g n cap : Nat} {bs : List UInt8} (h : DRow w (.slice (some ⟨g, 0, none⟩) n cap) bs) : n = bs.length ∧ ∀ j u, (byteVs bs)[j]? = some u → w.cell? ((⟨g, 0, none⟩ : Addr).add j) = some u := by
  rcases h with ⟨hv, _⟩ | ⟨g', cap', cur, hv, hh, h1, h2, h3, h4⟩
  · cases hv
  · cases hv
    refine ⟨rfl, fun j u hu => ?_⟩
    have hj : j < bs.length := by have := (List.getElem?_eq_some_iff.1 hu).1; simpa [byteVs] using this
    have e : w.cell? ⟨g, j, none⟩ = cur[j]? := by simp [World.cell?, hh]
    rw [Addr.add_lit, Nat.zero_add, e, ← hu, ← h4, List.getElem?_take, if_pos hj]; simp

theorem drow_new (w : World) (cur : Array Value) (cap : Nat) (bs : List UInt8) (hc : cur.toList.take bs.length = byteVs bs) (h1 : bs.length ≤ cap) (h2 : cap ≤ cur.size) (h3 : cap ≤ maxLen) : DRow (w.alloc (.cells cur 5)) (.slice (some ⟨w.heap.size, 0, none⟩) bs.length cap) bs :=
  .inr ⟨w.heap.size, cap, cur, rfl, heap_alloc_new w _, h1, h2, h3, hc⟩

theorem append_bytes {w : World} {v : Value} {bs nb : List UInt8} (h : DRow w v bs) (A : Option Addr) (c : Nat) (ty : TypeId) (hA : BytesAt w A nb) (hb : bs.length + nb.length ≤ 2000000) :
    ∃ v' w', (Builtin.append_ #[23, 23] ty #[v, .slice A nb.length c]).run Tryz.prog w = .ok v' w' ∧ DRow w' v' (bs ++ nb) ∧ w.grownBy w' v.ownBlock ∧ (∀ g, v'.ownBlock = some g → v.ownBlock = some g ∨ w.heap.size ≤ g) := by
  obtain ⟨i, hi, hz0, hz1, hz2⟩ := info_parts byte_info
  have ht := Tryz.underlying23
  have hlen : bs.length + nb.length = (bs ++ nb).length := by simp
  have hmx : ∀ k, k ≤ 2000000 → k ≤ maxLen := fun k hk => Nat.le_trans hk (by decide)
  by_cases h0 : nb.length = 0
  · -- nothing comes
    have hnb : nb = [] := List.eq_nil_of_length_eq_zero h0
    subst hnb
    refine ⟨v, w, ?_, by simpa using h, ⟨rfl, rfl, rfl, Nat.le_refl _, fun _ _ _ => rfl⟩, fun g hg => .inl hg⟩
    rcases h with ⟨rfl, hbs⟩ | ⟨g, cap, cur, rfl, hh, h1, h2, h3, h4⟩
    · cases A <;> simp [Builtin.append_, run_underlying ht, sizeOf, typeInfo, hi, hz1, Builtin.lenOf, Builtin.firstCells, loadCells, loadCellsFrom]
    · cases A <;> simp [Builtin.append_, run_underlying ht, sizeOf, typeInfo, hi, hz1, Builtin.lenOf, Builtin.firstCells, loadCells, loadCellsFrom, h1, storeCells]
  · cases A with
    | none => exact absurd (hA.1 rfl) h0
    | some ad =>
      have hnews := hA.2 ad rfl
      have hl : (byteVs nb).length = nb.length * i.size := by rw [byteVs_len, hz1, Nat.mul_one]
      rcases h with ⟨rfl, hbs⟩ | ⟨g, cap, cur, rfl, hh, h1, h2, h3, h4⟩
      · subst hbs
        have hr := run_append_nil (P := Tryz.prog) w 23 ty 5 i (.int .u8 0) ht hi hz0 ad nb.length c (byteVs nb) hl hnews (by omega) (by simp at hb; omega) (by rw [hz2]; simp at hb; omega)
        refine ⟨_, _, hr, ?_, ⟨rfl, rfl, rfl, by simp, fun k hk _ => (by first | exact heap_alloc_old w.drew _ hk | exact heap_alloc_old w.drew _ k hk)⟩, fun g hg => ?_⟩
        · have hge := grownCap_ge w nb.length 0 5
          have hcm := grownCap_le_maxLen w nb.length 0 5 (hmx _ (by simp at hb; omega))
          refine drow_new w.drew _ _ nb ?_ hge ?_ hcm
          · simp [byteVs_len]
          · rw [Array.size_append, List.size_toArray, byteVs_len, size_zeroCells]
            show _ ≤ nb.length + (_ - nb.length) * 1
            omega
        · simp [Value.ownBlock] at hg; right; omega
      · by_cases hroom : bs.length + nb.length ≤ cap
        · have hr := run_append_room (P := Tryz.prog) w 23 ty 5 i ht hi g bs.length cap cur hh ad nb.length c (byteVs nb) hl hnews (byteVs_one nb) hroom (by rw [hz1, byteVs_len]; omega)
          refine ⟨_, _, hr, .inr ⟨g, cap, _, by rw [hlen], setRow_heap w g cur _ 5 _ hh, by simpa using hroom, ?_, h3, ?_⟩, ⟨rfl, rfl, rfl, by simp, fun k _ hk => setRow_other w g k _ (fun e => hk (by simp [Value.ownBlock, e]))⟩, fun g' hg => .inl hg⟩
          · simp [hz1, byteVs_len]; omega
          · have e : (byteVs bs ++ byteVs nb).length = (bs ++ nb).length := by simp [byteVs_len]
            rw [hz1, Nat.mul_one, h4, byteVs_append]
            show List.take (bs ++ nb).length (byteVs bs ++ byteVs nb ++ _) = _
            rw [← e]
            exact List.take_left
        · have hd : DRow w (.slice (some ⟨g, 0, none⟩) bs.length cap) bs := .inr ⟨g, cap, cur, rfl, hh, h1, h2, h3, h4⟩
          have hr := run_append_grow (P := Tryz.prog) w 23 ty 5 i (.int .u8 0) ht hi hz0 ⟨g, 0, none⟩ bs.length cap (byteVs bs) (by rw [byteVs_len, hz1, Nat.mul_one]) hd.cells.2 ad nb.length c (byteVs nb) hl hnews (by omega) (by omega) (growslice_fits (by omega) (by rw [hz2]; omega))
          refine ⟨_, _, hr, ?_, ⟨rfl, rfl, rfl, by simp, fun k hk _ => (by first | exact heap_alloc_old w.drew _ hk | exact heap_alloc_old w.drew _ k hk)⟩, fun g hg => ?_⟩
          · have hge := grownCap_ge w (bs.length + nb.length) cap 5
            have hcm := grownCap_le_maxLen w (bs.length + nb.length) cap 5 (hmx _ hb)
            have := drow_new w.drew ((byteVs bs).toArray ++ (byteVs nb).toArray ++ Builtin.zeroCells (Value.int .u8 0).cells (grownCap w (bs.length + nb.length) cap 5 - (bs.length + nb.length))) (grownCap w (bs.length + nb.length) cap 5) (bs ++ nb) (by
              have e : (byteVs bs ++ byteVs nb).length = (bs ++ nb).length := by simp [byteVs_len]
              rw [Array.toList_append, Array.toList_append, byteVs_append]
              show List.take (bs ++ nb).length (byteVs bs ++ byteVs nb ++ _) = _
              rw [← e]
              exact List.take_left) (by simpa using hge) (by
              rw [Array.size_append, Array.size_append, List.size_toArray, List.size_toArray, byteVs_len, byteVs_len, size_zeroCells]
              show _ ≤ bs.length + nb.length + (_ - (bs.length + nb.length)) * 1
              omega) hcm
            rw [← hlen] at this
            exact this
          · simp [Value.ownBlock] at hg; right; omega
end Go.Proofs.YthokoimoiamddaaGreatDoor
set_option linter.unusedSimpArgs false
set_option linter.unusedVariables false
namespace Go.Proofs.YthokoimoiamddaaGreatDoor
open Go Go.RowKit

def okB (c : Int) : Bool := decide ((97 ≤ c ∧ c ≤ 122) ∨ (48 ≤ c ∧ c ≤ 57) ∨ c = 95 ∨ c = 46)
def allB (s : ByteArray) (k : Nat) : Bool := (s.data.toList.take k).all fun c => okB (c.toNat : Int)
def nmB (s : ByteArray) : Bool := allB s s.size && decide (1 ≤ s.size ∧ s.size ≤ 64)
theorem allB_zero (s : ByteArray) : allB s 0 = true := rfl
theorem allB_succ (s : ByteArray) (k : Nat) (h : k < s.size) : allB s (k + 1) = (allB s k && okB ((s[k]).toNat : Int)) := by
  unfold allB
  rw [List.take_succ_eq_append_getElem (by simpa using h), List.all_append]
  simp
  rfl
theorem allB_bad (s : ByteArray) (k : Nat) (h : k < s.size) (hb : okB ((s[k]).toNat : Int) = false) : nmB s = false := by
  unfold nmB allB
  have hm : s.data.toList[k]'(by simpa using h) ∈ s.data.toList.take s.size := by
    rw [List.take_of_length_le (by simp)]; exact List.getElem_mem _
  have : (s.data.toList.take s.size).all (fun c => okB (c.toNat : Int)) = false := by
    rw [Bool.eq_false_iff]
    intro h2
    have := List.all_eq_true.1 h2 _ hm
    have h3 : okB ((s.data.toList[k]'(by simpa using h)).toNat : Int) = false := hb
    rw [h3] at this; cases this
  rw [this]; rfl

set_option maxHeartbeats 1000000 in
theorem dname_any (s : ByteArray) (w : World) (hs : s.size ≤ 4611686018427387904) :
    Calls Tryz.prog 72 #[.string s] w fun e w' => e = .returned (.bool (nmB s)) ∧ w = w' := by
  have HS := Lib.hid hs
  clear hs
  go_enter Tryz.func72, Tryz.ntmps72
  go_wp2
  go_loop [7] (fun i => ∃ k : Nat, k ≤ s.size ∧ i = .int .i64 k ∧ allB s k = true) (fun i => s.size - (intOf i).toNat)
  case atStart => exact ⟨0, Nat.zero_le _, rfl, rfl⟩
  case round =>
    obtain ⟨k, hk, rfl, hr⟩ := hrel
    have HR : Hid (allB s k = true) := hr
    clear hr
    by_cases hlt : k < s.size
    · have hw1 : IntKind.i64.wrap ((k : Int) + 1) = ((k + 1 : Nat) : Int) := by have := HS.out; rw [IntKind.wrap_i64]; omega
      by_cases h1 : (97 : Int) ≤ ((s[k]).toNat : Int)
      · by_cases h2 : ((s[k]).toNat : Int) ≤ 122
        · have HB : Hid (allB s (k + 1) = true) := by simp only [Hid]; rw [allB_succ s k hlt, HR.out]; simp [okB, *]; try omega
          go_wp2
          exact ⟨⟨k + 1, by omega, by go_num, HB.out⟩, by simp [intOf]; omega⟩
        · have h3 : (48 : Int) ≤ ((s[k]).toNat : Int) := by omega
          have h4 : ¬ ((s[k]).toNat : Int) ≤ 57 := by omega
          have h5 : (((s[k]).toNat : Int) == 95) = false := by simp; omega
          have h6 : (((s[k]).toNat : Int) == 46) = false := by simp; omega
          have h7 : ¬ ((s[k]).toNat : Int) = 95 := by omega
          have h8 : ¬ ((s[k]).toNat : Int) = 46 := by omega
          have HB : Hid (nmB s = false) := allB_bad s k hlt (by rw [okB, decide_eq_false_iff_not]; omega)
          go_wp2
          go_ret
          exact ⟨by rw [HB.out]; rfl, rfl⟩
      · by_cases h3 : (48 : Int) ≤ ((s[k]).toNat : Int)
        · by_cases h4 : ((s[k]).toNat : Int) ≤ 57
          · have HB : Hid (allB s (k + 1) = true) := by simp only [Hid]; rw [allB_succ s k hlt, HR.out]; simp [okB, *]; try omega
            go_wp2
            exact ⟨⟨k + 1, by omega, by go_num, HB.out⟩, by simp [intOf]; omega⟩
          · have h8 : ¬ ((s[k]).toNat : Int) = 46 := by omega
            have h6 : (((s[k]).toNat : Int) == 46) = false := by simp; omega
            by_cases h7 : ((s[k]).toNat : Int) = 95
            · have h5 : (((s[k]).toNat : Int) == 95) = true := by simp [h7]
              have HB : Hid (allB s (k + 1) = true) := by simp only [Hid]; rw [allB_succ s k hlt, HR.out]; simp [okB, *]; try omega
              go_wp2
              exact ⟨⟨k + 1, by omega, by go_num, HB.out⟩, by simp [intOf]; omega⟩
            · have h5 : (((s[k]).toNat : Int) == 95) = false := by simp [h7]
              have HB : Hid (nmB s = false) := allB_bad s k hlt (by rw [okB, decide_eq_false_iff_not]; omega)
              go_wp2
              go_ret
              exact ⟨by rw [HB.out]; rfl, rfl⟩
        · have h7 : ¬ ((s[k]).toNat : Int) = 95 := by omega
          have h5 : (((s[k]).toNat : Int) == 95) = false := by simp [h7]
          by_cases h8 : ((s[k]).toNat : Int) = 46
          · have h6 : (((s[k]).toNat : Int) == 46) = true := by simp [h8]
            have HB : Hid (allB s (k + 1) = true) := by simp only [Hid]; rw [allB_succ s k hlt, HR.out]; simp [okB, *]; try omega
            go_wp2
            exact ⟨⟨k + 1, by omega, by go_num, HB.out⟩, by simp [intOf]; omega⟩
          · have h6 : (((s[k]).toNat : Int) == 46) = false := by simp [h8]
            have HB : Hid (nmB s = false) := allB_bad s k hlt (by rw [okB, decide_eq_false_iff_not]; omega)
            go_wp2
            go_ret
            exact ⟨by rw [HB.out]; rfl, rfl⟩
    · have hks : k = s.size := by omega
      subst hks
      by_cases h1 : 1 ≤ s.size
      · by_cases h2 : s.size ≤ 64
        · have HB : Hid (nmB s = true) := by simp only [Hid, nmB, HR.out]; simp; omega
          have g1 : decide ((s.size : Int) ≥ 1) = true := by rw [decide_eq_true_iff]; omega
          have g2 : decide ((s.size : Int) ≤ 64) = true := by rw [decide_eq_true_iff]; omega
          go_wp2
          go_ret
          exact ⟨by rw [HB.out]; rfl, rfl⟩
        · have HB : Hid (nmB s = false) := by simp only [Hid, nmB, HR.out]; simp; omega
          have g1 : decide ((s.size : Int) ≥ 1) = true := by rw [decide_eq_true_iff]; omega
          have g2 : decide ((s.size : Int) ≤ 64) = false := by rw [decide_eq_false_iff_not]; omega
          go_wp2
          go_ret
          exact ⟨by rw [HB.out]; rfl, rfl⟩
      · have HB : Hid (nmB s = false) := by simp only [Hid, nmB, HR.out]; simp; omega
        have g1 : decide ((s.size : Int) ≥ 1) = false := by rw [decide_eq_false_iff_not]; omega
        go_wp2
        go_ret
        exact ⟨by rw [HB.out]; rfl, rfl⟩
end Go.Proofs.YthokoimoiamddaaGreatDoor
set_option linter.unusedSimpArgs false
set_option linter.unusedVariables false
namespace Go.Proofs.YthokoimoiamddaaGreatDoor
open Go Go.RowKit

theorem cloneB_info : (Tryz.prog.info? 5).map (fun i => (i.zero, i.size, i.bytes)) = some (some (.int .u8 0), 1, 1) := by kernel_rfl
/-- slices.Clone: nil stays nil; else a row of the call's own with the same cells. -/
theorem cloneB_any (A : Option Addr) (n c : Nat) (xs : List Value) (w : World) (hl : xs.length = n * 1) (hn : n ≤ maxLen) (hb : n * 1 ≤ 140737488355328)
    (h0 : A = none → n = 0) (hx : ∀ ad, A = some ad → ∀ j u, xs[j]? = some u → w.cell? (ad.add j) = some u) (h1 : ∀ u ∈ xs, u.oneCell' = true) :
    Calls Tryz.prog 61 #[.slice A n c] w fun e w' => ∃ v, e = .returned v ∧ w'.ownsRow w.heap.size 5 1 v n xs ∧ Below w.heap.size w w' ∧ (v = .slice none 0 0 ↔ A = none) := by
  have heq := fun (w : World) (a : Option Addr) (n c n' c' : Nat) => @Lib.run_eql_slice_nil Tryz.prog w 23 5 a n c n' c' Tryz.underlying23
  rcases A with _ | ad
  · have hn0 := h0 rfl
    subst hn0
    have hxs : xs = [] := List.eq_nil_of_length_eq_zero (by simpa using hl)
    subst hxs
    go_enter Tryz.func61, Tryz.ntmps61
    go_wp2
    go_ret
    exact ⟨_, rfl, World.ownsRow_nil _ _ _ _, Below.refl _ _, by simp⟩
  · obtain ⟨i0, hi, hz0, hz1, hz2⟩ := info_parts cloneB_info
    have hx' := hx ad rfl
    have hown0 : (w.alloc (.cells #[] 5)).ownsRow w.heap.size 5 1 (.slice (some ⟨w.heap.size, 0, none⟩) 0 0) 0 [] := World.ownsRow_made w #[] 0 (Nat.le_refl _) (by simp) (by simp)
    have hx2 : Hid (∀ j u, xs[j]? = some u → (w.alloc (.cells #[] 5)).cell? (ad.add j) = some u) := fun j u hu => by
      have := hx' j u hu
      rw [World.cell?_alloc_lt _ _ _ (World.block_lt_of_cell? w _ this)]; exact this
    have h1' : Hid (∀ u ∈ xs, u.oneCell' = true) := h1
    have hl' : Hid (xs.length = n * 1) := hl
    have hn' : Hid (0 + n ≤ maxLen) := by simpa [Hid] using hn
    have hb' : Hid ((0 + n) * 1 ≤ 140737488355328) := by simpa [Hid] using hb
    have hs' : Hid (w.heap.size ≤ (w.alloc (.cells #[] 5)).heap.size) := by simp [Hid]
    clear hx hx' h1 h0 hl hn hb
    go_enter Tryz.func61, Tryz.ntmps61
    go_wp2_with (at_builtin; refine wpList_append_own _ rfl _ _ 23 rfl w.heap.size 5 i0 (.int .u8 0) 1 1 Tryz.underlying23 hi hz0 hz1 hz2 rfl (by decide) _ 0 [] rfl hown0 ad n c xs rfl hl'.out hx2.out h1'.out hn'.out hb'.out hs'.out ?_; intro v' w1 hown1 hgrow hnil)
    have hg : (w.alloc (.cells #[] 5)).grownBy w1 (some w.heap.size) := hgrow
    have hn2 : v' = .slice none 0 0 ↔ (Value.slice (some ⟨w.heap.size, 0, none⟩) 0 0) = .slice none 0 0 ∧ n = 0 := hnil
    clear hgrow hnil
    have hfin : Hid (w1.ownsRow w.heap.size 5 1 v' n xs ∧ Below w.heap.size w w1 ∧ ¬ v' = .slice none 0 0) :=
      ⟨by simpa using hown1, ((Below.refl _ _).alloc (Nat.le_refl _) _).grown hg (by simp) (fun k h => by cases h; exact Nat.le_refl _), fun h => by have := (hn2.1 h).1; cases this⟩
    clear hn2 hg hown1 hown0
    go_ret
    exact ⟨v', rfl, hfin.out.1, hfin.out.2.1, fun h => absurd h hfin.out.2.2, fun h => by cases h⟩

end Go.Proofs.YthokoimoiamddaaGreatDoor
set_option linter.unusedSimpArgs false
set_option linter.unusedVariables false
namespace Go.Proofs.YthokoimoiamddaaGreatDoor
open Go Go.RowKit

def errV : Option Int → Value
  | none => .nilIface
  | some c => .iface 42 (.int .i64 c)

theorem newDisk_any (w : World) : Calls Tryz.prog 8 #[] w fun e w' => e = .returned (.pointer (some ⟨w.heap.size + 1, 0, none⟩)) ∧
    w' = (w.alloc (.map #[] 0)).alloc (.cells #[.map (some w.heap.size), .int .i64 0] 60) := by
  have hmm := @run_makeMap Tryz.prog
  go_enter Tryz.func8, Tryz.ntmps8
  go_wp2
  go_ret
  exact ⟨rfl, rfl⟩

theorem fileP_zero (w : World) : (zeroValue 80).run Tryz.prog w = .ok (.pointer none) w := by kernel_rfl

theorem DiskAt.look {base : Nat} {w : World} {s : St} (h : DiskAt base w s) (k : ByteArray) : (Instr.lookup 58 (.map (some s.M)) (.string k) false).run Tryz.prog w = .ok (((s.R k).map ptrF).getD (.pointer none)) w := by
  have := run_look str_keys Tryz.underlying58 fileP_zero h.map k
  rwa [h.lk] at this

theorem find_nil (k : ByteArray) (w : World) : Calls Tryz.prog 49 #[.pointer none, .string k] w fun e w' => e = .returned (.tuple #[.pointer none, .iface 42 (.int .i64 19)]) ∧ w = w' := by
  go_enter Tryz.func49, Tryz.ntmps49
  go_wp2
  go_ret2
  exact ⟨rfl, rfl⟩

theorem find_hit (base : Nat) (s : St) (k : ByteArray) (r : FRec) (w : World) (h : DiskAt base w s) (hr : s.R k = some r) : Calls Tryz.prog 49 #[.pointer (some ⟨s.B, 0, none⟩), .string k] w fun e w' => e = .returned (.tuple #[.pointer (some ⟨r.F, 0, none⟩), .nilIface]) ∧ w = w' := by
  obtain ⟨c0, _, _⟩ := h.cells
  have hl := h.look k
  rw [hr] at hl
  simp only [Option.map_some, Option.getD_some, ptrF] at hl
  clear h hr
  go_enter Tryz.func49, Tryz.ntmps49
  go_wp2
  go_ret2
  exact ⟨rfl, rfl⟩

theorem find_miss (base : Nat) (s : St) (k : ByteArray) (w : World) (h : DiskAt base w s) (hr : s.R k = none) : Calls Tryz.prog 49 #[.pointer (some ⟨s.B, 0, none⟩), .string k] w fun e w' => e = .returned (.tuple #[.pointer none, .iface 42 (.int .i64 10)]) ∧ w = w' := by
  obtain ⟨c0, _, _⟩ := h.cells
  have hl := h.look k
  rw [hr] at hl
  simp only [Option.map_none, Option.getD_none] at hl
  clear h hr
  go_enter Tryz.func49, Tryz.ntmps49
  go_wp2
  go_ret2
  exact ⟨rfl, rfl⟩

theorem DRow.slice {w : World} {v : Value} {bs : List UInt8} (h : DRow w v bs) : ∃ A c, v = .slice A bs.length c ∧ BytesAt w A bs ∧ (A = none → c = 0 ∧ bs = []) := by
  rcases h with ⟨rfl, rfl⟩ | ⟨g, cap, cur, rfl, h2, h3, h4, h5, h6⟩
  · exact ⟨none, 0, rfl, ⟨fun _ => rfl, fun ad e => by cases e⟩, fun _ => ⟨rfl, rfl⟩⟩
  · refine ⟨_, cap, rfl, ⟨fun e => (by cases e), fun ad e => ?_⟩, fun e => (by cases e)⟩
    cases e
    exact (DRow.cells (.inr ⟨g, cap, cur, rfl, h2, h3, h4, h5, h6⟩)).2
theorem own_slice {w : World} {base : Nat} {e : TypeId} {size n : Nat} {v : Value} {xs : List Value} (h : w.ownsRow base e size v n xs) : ∃ A c, v = .slice A n c := by
  rcases h.2 with ⟨rfl, hn⟩ | ⟨g, cap, cur, rfl, _⟩
  · exact ⟨none, 0, by rw [hn]⟩
  · exact ⟨_, _, rfl⟩
theorem DRow.of_own {w : World} {base : Nat} {v : Value} {bs : List UInt8} (h : w.ownsRow base 5 1 v bs.length (byteVs bs)) : DRow w v bs := by
  rcases h.2 with ⟨hv, hn⟩ | ⟨g, cap, cur, hv, hg, hh, h3, h4, h5, h6⟩
  · exact .inl ⟨hv, List.eq_nil_of_length_eq_zero hn⟩
  · exact .inr ⟨g, cap, cur, hv, hh, h3, by omega, h4, by simpa using h6⟩

/-- A row of the call's own: not the disk's. -/
theorem clone_bytes (v : Value) (bs : List UInt8) (w : World) (h : DRow w v bs) (hf : bs.length ≤ 1048576) :
    Calls Tryz.prog 61 #[v] w fun e w' => ∃ A c, e = .returned (.slice A bs.length c) ∧ Hid (w'.ownsRow w.heap.size 5 1 (.slice A bs.length c) bs.length (byteVs bs) ∧ Below w.heap.size w w') := by
  obtain ⟨A, c, rfl, hA, _⟩ := h.slice
  refine (cloneB_any A bs.length c (byteVs bs) w (by simp [byteVs]) (Nat.le_trans hf (by decide)) (by omega) (fun e => hA.1 e) (fun ad e => hA.2 ad e) (byteVs_one bs)).mono ?_
  rintro e w' ⟨v, rfl, h1, h2, _⟩
  obtain ⟨A', c', rfl⟩ := own_slice h1
  exact ⟨A', c', rfl, h1, h2⟩

theorem read_nil (k : ByteArray) (w : World) : Calls Tryz.prog 41 #[.pointer none, .string k] w fun e w' => e = .returned (.tuple #[.slice none 0 0, .iface 42 (.int .i64 19)]) ∧ w = w' := by
  go_enter Tryz.func41, Tryz.ntmps41
  go_wp2_with (go_at_call 49; refine (find_nil k _).mono ?_; rintro e w' ⟨rfl, rfl⟩)
  go_ret2
  exact ⟨rfl, rfl⟩
theorem read_miss (base : Nat) (s : St) (k : ByteArray) (w : World) (h : DiskAt base w s) (hr : s.R k = none) : Calls Tryz.prog 41 #[.pointer (some ⟨s.B, 0, none⟩), .string k] w fun e w' => e = .returned (.tuple #[.slice none 0 0, .iface 42 (.int .i64 10)]) ∧ w = w' := by
  have H := Lib.hid h
  clear h
  go_enter Tryz.func41, Tryz.ntmps41
  go_wp2_with (go_at_call 49; refine (find_miss base s k _ H.out hr).mono ?_; rintro e w' ⟨rfl, rfl⟩)
  go_ret2
  exact ⟨rfl, rfl⟩
theorem read_hit (base : Nat) (s : St) (k : ByteArray) (r : FRec) (w : World) (h : DiskAt base w s) (hr : s.R k = some r) : Calls Tryz.prog 41 #[.pointer (some ⟨s.B, 0, none⟩), .string k] w fun e w' => ∃ A c, e = .returned (.tuple #[.slice A r.data.length c, .nilIface]) ∧ Hid (w'.ownsRow w.heap.size 5 1 (.slice A r.data.length c) r.data.length (byteVs r.data) ∧ Below w.heap.size w w') := by
  have H := Lib.hid h
  have HR := Lib.hid (h.recs k r hr)
  have c0 := (h.recs k r hr).cells.1
  clear h
  go_enter Tryz.func41, Tryz.ntmps41
  go_wp2_with (first | (go_at_call 49; refine (find_hit base s k r _ H.out hr).mono ?_; rintro e w' ⟨rfl, rfl⟩) | (go_at_call 61; refine (clone_bytes r.dv r.data _ HR.out.data HR.out.few).mono ?_; rintro e w' ⟨A, c, rfl, H2⟩))
  go_ret2
  exact ⟨A, c, rfl, H2.out⟩
end Go.Proofs.YthokoimoiamddaaGreatDoor
set_option linter.unusedSimpArgs false
set_option linter.unusedVariables false
namespace Go.Proofs.YthokoimoiamddaaGreatDoor
open Go Go.RowKit

def updR (R : ByteArray → Option FRec) (k : ByteArray) (o : Option FRec) : ByteArray → Option FRec := fun k' => if k' = k then o else R k'
theorem updR_same (R : ByteArray → Option FRec) (k : ByteArray) (o : Option FRec) : updR R k o k = o := by simp [updR]
theorem updR_other {R : ByteArray → Option FRec} {k k' : ByteArray} (o : Option FRec) (h : k' ≠ k) : updR R k o k' = R k' := by simp [updR, h]

theorem updR_is {R : ByteArray → Option FRec} {k k' : ByteArray} {o : Option FRec} {r : FRec} (e : k' ≠ k) (h : updR R k o k' = some r) : R k' = some r := by rwa [updR_other o e] at h
theorem updR_me {R : ByteArray → Option FRec} {k : ByteArray} {r r' : FRec} (h : updR R k (some r') k = some r) : some r' = some r := by rwa [updR_same] at h

section
variable {base : Nat} {w w' : World} {s : St}

/-- The disk's three kinds of blocks are of unlike types. -/
theorem DiskAt.ne_rec (h : DiskAt base w s) {k : ByteArray} {r : FRec} (hr : s.R k = some r) {g : Nat} (hg : r.blocks g) : g ≠ s.B ∧ g ≠ s.M := by
  have hrec := h.recs k r hr
  have hm := h.map
  unfold MapAt at hm
  have key : ∀ cur t, w.heap[g]? = some (.cells cur t (0, 0)) → t ≠ 60 → g ≠ s.B ∧ g ≠ s.M := fun cur t hh ht => by
    refine ⟨fun e => ?_, fun e => ?_⟩
    · rw [e, h.blk] at hh; injection hh with hh; injection hh with _ h2 _; exact ht h2.symm
    · rw [e, hm] at hh; cases hh
  rcases hg with rfl | hg | hg
  · exact key _ _ hrec.blk (by decide)
  · obtain ⟨cur, hh, _⟩ := hrec.data.block hg; exact key _ _ hh (by decide)
  · obtain ⟨cur, hh, _⟩ := own_block hrec.loose hg; exact key _ _ hh (by decide)
theorem DiskAt.ne_BM (h : DiskAt base w s) : s.B ≠ s.M := fun e => by
  have hm := h.map
  unfold MapAt at hm
  have hb := h.blk
  rw [e, hm] at hb; cases hb
theorem RecOK.apart {r : FRec} (h : RecOK w r) : (∀ g, r.dv.ownBlock = some g → g ≠ r.F) ∧ (∀ g, r.lv.ownBlock = some g → g ≠ r.F) ∧ (∀ g, r.dv.ownBlock = some g → r.lv.ownBlock ≠ some g) := by
  refine ⟨fun g hg e => ?_, fun g hg e => ?_, fun g hg e => ?_⟩
  · obtain ⟨cur, hh, _⟩ := h.data.block hg
    rw [e, h.blk] at hh; injection hh with hh; injection hh with _ h2 _; exact absurd h2 (by decide)
  · obtain ⟨cur, hh, _⟩ := own_block h.loose hg
    rw [e, h.blk] at hh; injection hh with hh; injection hh with _ h2 _; exact absurd h2 (by decide)
  · obtain ⟨cur, hh, _⟩ := h.data.block hg
    obtain ⟨cur2, hh2, _⟩ := own_block h.loose e
    rw [hh] at hh2; injection hh2 with hh2; injection hh2 with _ h2 _; exact absurd h2 (by decide)

/-- One file's record is another one, in the same block. -/
theorem DiskAt.change (h : DiskAt base w s) {k : ByteArray} {r : FRec} (hr : s.R k = some r) (r' : FRec) (hF : r'.F = r.F) (hok : RecOK w' r') (hkeep : ∀ g, s.own g → ¬ r.blocks g → w'.heap[g]? = w.heap[g]?)
    (hblk : ∀ g, r'.blocks g → r.blocks g ∨ w.heap.size ≤ g) (hlow : base ≤ w.heap.size) (ht : ∀ p ∈ r'.loose, 0 < p.1 ∧ p.1 ≤ s.turn)
    (hu : ∀ (k' : ByteArray) (r2 : FRec) (i j : Nat) (p p' : Int × Int), k' ≠ k → s.R k' = some r2 → r'.loose[i]? = some p → r2.loose[j]? = some p' → p.1 ≠ p'.1)
    (hi : ∀ (i j : Nat) (p p' : Int × Int), r'.loose[i]? = some p → r'.loose[j]? = some p' → p.1 = p'.1 → i = j) : DiskAt base w' { s with R := updR s.R k (some r') } := by
  have hnr : ∀ g, (g = s.B ∨ g = s.M) → ¬ r.blocks g := fun g hg hb => by
    have := h.ne_rec hr hb
    rcases hg with rfl | rfl
    · exact this.1 rfl
    · exact this.2 rfl
  have hot : ∀ k' r2, k' ≠ k → s.R k' = some r2 → ∀ g, r2.blocks g → ¬ r.blocks g := fun k' r2 hne hr2 g hg hb => h.apart k' k r2 r g hne hr2 hr hg hb
  refine ⟨(hkeep _ (.inl rfl) (hnr _ (.inl rfl))).trans h.blk, (hkeep _ (.inr (.inl rfl)) (hnr _ (.inr rfl))).trans h.map, h.wf, fun k' => ?_, fun k' r2 hr2 => ?_, fun k1 k2 r1 r2 g hne h1 h2 hg1 hg2 => ?_, fun g hg => ?_, h.few, h.turn0, fun k' r2 p hr2 hp => ?_, fun k1 k2 r1 r2 i j p p' h1 h2 hp1 hp2 he => ?_⟩
  · by_cases e : k' = k
    · subst e
      show lkV k' s.L = (updR s.R k' (some r') k').map ptrF
      rw [updR_same, h.lk, hr]
      simp [ptrF, hF]
    · show lkV k' s.L = (updR s.R k (some r') k').map ptrF
      rw [updR_other _ e, h.lk]
  · by_cases e : k' = k
    · subst e
      have : some r' = some r2 := by rw [← updR_same s.R k' (some r')]; exact hr2
      cases this
      exact hok
    · have hr3 : s.R k' = some r2 := updR_is e hr2
      exact (h.recs k' r2 hr3).keep fun g hg => hkeep g (.inr (.inr ⟨k', r2, hr3, hg⟩)) (hot k' r2 e hr3 g hg)
  · have old : ∀ k' r2, k' ≠ k → s.R k' = some r2 → ∀ g, r2.blocks g → ¬ r'.blocks g := fun k' r2 e hr2 g hg hb => by
      rcases hblk g hb with hb | hb
      · exact hot k' r2 e hr2 g hg hb
      · have := (h.recs k' r2 hr2).lt hg; omega
    by_cases e1 : k1 = k
    · subst e1
      have e2 : k2 ≠ k1 := fun e => hne e.symm
      have h1' : some r' = some r1 := updR_me h1
      cases h1'
      have h2' : s.R k2 = some r2 := updR_is e2 h2
      exact old k2 r2 e2 h2' g hg2 hg1
    · have h1' : s.R k1 = some r1 := updR_is e1 h1
      by_cases e2 : k2 = k
      · subst e2
        have h2' : some r' = some r2 := updR_me h2
        cases h2'
        exact old k1 r1 e1 h1' g hg1 hg2
      · have h2' : s.R k2 = some r2 := updR_is e2 h2
        exact h.apart k1 k2 r1 r2 g hne h1' h2' hg1 hg2
  · rcases hg with rfl | rfl | ⟨k', r2, hr2, hg⟩
    · exact h.low _ (.inl rfl)
    · exact h.low _ (.inr (.inl rfl))
    · by_cases e : k' = k
      · subst e
        have h1' : some r' = some r2 := by rw [← updR_same s.R k' (some r')]; exact hr2
        cases h1'
        rcases hblk g hg with hb | hb
        · exact h.low g (.inr (.inr ⟨k', r, hr, hb⟩))
        · omega
      · have h2' : s.R k' = some r2 := updR_is e hr2
        exact h.low g (.inr (.inr ⟨k', r2, h2', hg⟩))
  · by_cases e : k' = k
    · subst e
      have h1' : some r' = some r2 := by rw [← updR_same s.R k' (some r')]; exact hr2
      cases h1'
      exact ht p hp
    · exact h.turns k' r2 p (updR_is e hr2) hp
  · by_cases e1 : k1 = k
    · subst e1
      have h1' : some r' = some r1 := updR_me h1
      cases h1'
      by_cases e2 : k2 = k1
      · subst e2
        have h2' : some r' = some r2 := updR_me h2
        cases h2'
        exact ⟨rfl, hi i j p p' hp1 hp2 he⟩
      · exact absurd he (hu k2 r2 i j p p' e2 (updR_is e2 h2) hp1 hp2)
    · have h1' : s.R k1 = some r1 := updR_is e1 h1
      by_cases e2 : k2 = k
      · subst e2
        have h2' : some r' = some r2 := updR_me h2
        cases h2'
        exact absurd he.symm (hu k1 r1 j i p' p e1 h1' hp2 hp1)
      · exact h.uniq k1 k2 r1 r2 i j p p' h1' (updR_is e2 h2) hp1 hp2 he
end
end Go.Proofs.YthokoimoiamddaaGreatDoor
set_option linter.unusedSimpArgs false
set_option linter.unusedVariables false
namespace Go.Proofs.YthokoimoiamddaaGreatDoor
open Go Go.RowKit Go.ChangeMaps

section
variable {base : Nat} {w w' : World} {s : St}

theorem DiskAt.setTurn (h : DiskAt base w s) (t : Int) (ht : s.turn ≤ t) : DiskAt base (w.setCell ⟨s.B, 1, none⟩ (.int .i64 t)) { s with turn := t } := by
  have hk : ∀ g, g ≠ s.B → (w.setCell ⟨s.B, 1, none⟩ (.int .i64 t)).heap[g]? = w.heap[g]? := fun g hg => Below.heap_setCell w ⟨s.B, 1, none⟩ _ g hg
  refine ⟨?_, (hk _ (fun e => h.ne_BM e.symm)).trans h.map, h.wf, h.lk, fun k r hr => (h.recs k r hr).keep fun g hg => hk g (h.ne_rec hr hg).1, h.apart, h.low, h.few, Int.le_trans h.turn0 ht, fun k r p hr hp => ⟨(h.turns k r p hr hp).1, Int.le_trans (h.turns k r p hr hp).2 ht⟩, h.uniq⟩
  show (w.heap.modify s.B _)[s.B]? = _
  rw [Array.getElem?_modify, if_pos rfl, h.blk]
  rfl

/-- The record of a file that is made. -/
def newRec (w : World) : FRec := ⟨w.heap.size, .slice none 0 0, .slice none 0 0, [], []⟩
def putSt (s : St) (w : World) (k : ByteArray) : St := { s with R := updR s.R k (some (newRec w)), L := putE k (.pointer (some ⟨w.heap.size, 0, none⟩)) s.c s.L, c := clkE k s.L s.c }
theorem newRec_blocks {w : World} {g : Nat} (h : (newRec w).blocks g) : g = w.heap.size := by
  rcases h with h | h | h
  · exact h
  · cases h
  · cases h

theorem DiskAt.put (h : DiskAt base w s) (hlow : base ≤ w.heap.size) (k : ByteArray) (hr : s.R k = none) (hfew : s.L.length < 64) :
    DiskAt base (setBlock (w.alloc (.cells #[.slice none 0 0, .slice none 0 0] 83)) s.M (.map ((putE k (.pointer (some ⟨w.heap.size, 0, none⟩)) s.c s.L).map (MEnt.ent Value.string)).toArray (clkE k s.L s.c))) (putSt s w k) := by
  have hMlt := h.map.lt
  have hk : ∀ g, g < w.heap.size → g ≠ s.M → (setBlock (w.alloc (.cells #[.slice none 0 0, .slice none 0 0] 83)) s.M (.map ((putE k (.pointer (some ⟨w.heap.size, 0, none⟩)) s.c s.L).map (MEnt.ent Value.string)).toArray (clkE k s.L s.c))).heap[g]? = w.heap[g]? := fun g hg hne =>
    (setBlock_other _ hne).trans (Below.heap_alloc w _ g hg)
  have hnone : lkV k s.L = none := by rw [h.lk, hr]; rfl
  have hBlt := (Array.getElem?_eq_some_iff.1 h.blk).1
  have hnew : RecOK (setBlock (w.alloc (.cells #[.slice none 0 0, .slice none 0 0] 83)) s.M (.map ((putE k (.pointer (some ⟨w.heap.size, 0, none⟩)) s.c s.L).map (MEnt.ent Value.string)).toArray (clkE k s.L s.c))) (newRec w) := by
    refine ⟨?_, .inl ⟨rfl, rfl⟩, World.ownsRow_nil _ _ _ _, by simp [newRec], by simp [newRec], by simp [newRec, openOf]⟩
    exact (setBlock_other _ (by simp [newRec]; omega)).trans (heap_alloc_new w _)
  refine ⟨(hk _ hBlt h.ne_BM).trans h.blk, mapAt_setBlock (by simp; omega), h.wf.put, fun k' => ?_, fun k' r2 hr2 => ?_, fun k1 k2 r1 r2 g hne h1 h2 hg1 hg2 => ?_, fun g hg => ?_, ?_, h.turn0, fun k' r2 p hr2 hp => ?_, fun k1 k2 r1 r2 i j p p' h1 h2 hp1 hp2 he => ?_⟩
  · show lkV k' (putE k _ s.c s.L) = (updR s.R k (some (newRec w)) k').map ptrF
    rw [lkV_put]
    by_cases e : k' = k
    · subst e; rw [if_pos rfl, updR_same]; rfl
    · rw [if_neg e, updR_other _ e, h.lk]
  · by_cases e : k' = k
    · subst e
      cases updR_me hr2
      exact hnew
    · have hr3 := updR_is e hr2
      exact (h.recs k' r2 hr3).keep fun g hg => hk g ((h.recs k' r2 hr3).lt hg) (h.ne_rec hr3 hg).2
  · by_cases e1 : k1 = k
    · subst e1
      cases updR_me h1
      have h2' := updR_is (fun e => hne e.symm) h2
      have := newRec_blocks hg1
      have := (h.recs k2 r2 h2').lt hg2
      omega
    · have h1' := updR_is e1 h1
      by_cases e2 : k2 = k
      · subst e2
        cases updR_me h2
        have := newRec_blocks hg2
        have := (h.recs k1 r1 h1').lt hg1
        omega
      · exact h.apart k1 k2 r1 r2 g hne h1' (updR_is e2 h2) hg1 hg2
  · rcases hg with rfl | rfl | ⟨k', r2, hr2, hg⟩
    · exact h.low _ (.inl rfl)
    · exact h.low _ (.inr (.inl rfl))
    · by_cases e : k' = k
      · subst e
        cases updR_me hr2
        rw [newRec_blocks hg]; exact hlow
      · exact h.low g (.inr (.inr ⟨k', r2, updR_is e hr2, hg⟩))
  · show (putE k _ s.c s.L).length ≤ 64
    rw [putE_none hnone]; simp; omega
  · by_cases e : k' = k
    · subst e
      cases updR_me hr2
      simp [newRec] at hp
    · exact h.turns k' r2 p (updR_is e hr2) hp
  · by_cases e1 : k1 = k
    · subst e1
      cases updR_me h1
      simp [newRec] at hp1
    · by_cases e2 : k2 = k
      · subst e2
        cases updR_me h2
        simp [newRec] at hp2
      · exact h.uniq k1 k2 r1 r2 i j p p' (updR_is e1 h1) (updR_is e2 h2) hp1 hp2 he

theorem putSt_frame (h : DiskAt base w s) (k : ByteArray) :
    Frame s (putSt s w k) w (setBlock (w.alloc (.cells #[.slice none 0 0, .slice none 0 0] 83)) s.M (.map ((putE k (.pointer (some ⟨w.heap.size, 0, none⟩)) s.c s.L).map (MEnt.ent Value.string)).toArray (clkE k s.L s.c))) := by
  refine ⟨rfl, rfl, rfl, by simp [setBlock], fun g hg ho => (setBlock_other _ (fun e => ho (.inr (.inl e)))).trans (Below.heap_alloc w _ g hg), fun g hg => ?_⟩
  rcases hg with hg | hg | ⟨k', r2, hr2, hg⟩
  · exact .inl (.inl hg)
  · exact .inl (.inr (.inl hg))
  · by_cases e : k' = k
    · subst e
      cases updR_me hr2
      exact .inr (by rw [newRec_blocks hg]; exact Nat.le_refl _)
    · exact .inl (.inr (.inr ⟨k', r2, updR_is e hr2, hg⟩))

def dropSt (s : St) (k : ByteArray) : St := { s with R := updR s.R k none, L := delE k s.L }
theorem DiskAt.drop (h : DiskAt base w s) (k : ByteArray) : DiskAt base (setBlock w s.M (.map ((delE k s.L).map (MEnt.ent Value.string)).toArray s.c)) (dropSt s k) := by
  have hk : ∀ g, g ≠ s.M → (setBlock w s.M (.map ((delE k s.L).map (MEnt.ent Value.string)).toArray s.c)).heap[g]? = w.heap[g]? := fun g hne => setBlock_other _ hne
  have old : ∀ k' r2, updR s.R k none k' = some r2 → s.R k' = some r2 := fun k' r2 hr2 => by
    by_cases e : k' = k
    · subst e; rw [updR_same] at hr2; cases hr2
    · exact updR_is e hr2
  refine ⟨(hk _ h.ne_BM).trans h.blk, mapAt_setBlock h.map.lt, h.wf.del, fun k' => ?_, fun k' r2 hr2 => (h.recs k' r2 (old k' r2 hr2)).keep fun g hg => hk g (h.ne_rec (old k' r2 hr2) hg).2, fun k1 k2 r1 r2 g hne h1 h2 hg1 hg2 => h.apart k1 k2 r1 r2 g hne (old _ _ h1) (old _ _ h2) hg1 hg2, fun g hg => ?_, Nat.le_trans (delE_sub k s.L).length_le h.few, h.turn0, fun k' r2 p hr2 hp => h.turns k' r2 p (old _ _ hr2) hp, fun k1 k2 r1 r2 i j p p' h1 h2 hp1 hp2 he => h.uniq k1 k2 r1 r2 i j p p' (old _ _ h1) (old _ _ h2) hp1 hp2 he⟩
  · show lkV k' (delE k s.L) = (updR s.R k none k').map ptrF
    rw [lkV_del h.wf]
    by_cases e : k' = k
    · subst e; rw [if_pos rfl, updR_same]; rfl
    · rw [if_neg e, updR_other _ e, h.lk]
  · rcases hg with rfl | rfl | ⟨k', r2, hr2, hg⟩
    · exact h.low _ (.inl rfl)
    · exact h.low _ (.inr (.inl rfl))
    · exact h.low g (.inr (.inr ⟨k', r2, old _ _ hr2, hg⟩))
theorem dropSt_frame (h : DiskAt base w s) (k : ByteArray) : Frame s (dropSt s k) w (setBlock w s.M (.map ((delE k s.L).map (MEnt.ent Value.string)).toArray s.c)) := by
  refine ⟨rfl, rfl, rfl, by simp [setBlock], fun g hg ho => setBlock_other _ (fun e => ho (.inr (.inl e))), fun g hg => ?_⟩
  rcases hg with hg | hg | ⟨k', r2, hr2, hg⟩
  · exact .inl (.inl hg)
  · exact .inl (.inr (.inl hg))
  · by_cases e : k' = k
    · subst e
      have : updR s.R k' none k' = some r2 := hr2
      rw [updR_same] at this; cases this
    · exact .inl (.inr (.inr ⟨k', r2, updR_is e hr2, hg⟩))
end

theorem wpList_append_bytes (w : World) {ops : Array Oper} {rest : List Oper} {o : Oper} {a : Act} {Q : Exit → Act → World → Prop} (hgd : o.guard = none) (sl x : Operand)
    (ho : o.op = .call { callee := .builtin .append, args := #[sl, x], argTypes := #[23, 23] })
    (v : Value) (bs nb : List UInt8) (A : Option Addr) (n c : Nat) (hs : a.eval sl = v) (hx : a.eval x = .slice A n c) (hn : nb.length = n) (h : DRow w v bs) (hA : BytesAt w A nb) (hb : bs.length + nb.length ≤ 2000000)
    (hK : ∀ v' w', DRow w' v' (bs ++ nb) → w.grownBy w' v.ownBlock → (∀ g, v'.ownBlock = some g → v.ownBlock = some g ∨ w.heap.size ≤ g) → wpList Tryz.prog ops Q rest (a.put o.dst v') w') : wpList Tryz.prog ops Q (o :: rest) a w := by
  subst hn
  obtain ⟨v', w', hr, h2, h3, h4⟩ := append_bytes h A c o.type hA hb
  refine wpList_plain hgd fun K hK' => ?_
  unfold Oper.wp execOp
  simp only [ho, resolve, invoke, builtin, Sem.run_bind, Sem.run_pure, Result.andThen_ok, List.map_toArray, List.map_cons, List.map_nil, hs, hx, hr]
  exact hK' _ _ (hK v' w' h2 h3 h4)
end Go.Proofs.YthokoimoiamddaaGreatDoor
set_option linter.unusedSimpArgs false
set_option linter.unusedVariables false
namespace Go.Proofs.YthokoimoiamddaaGreatDoor
open Go Go.RowKit
open Go.ChangeMaps (setBlock)

section
variable {base : Nat} {w w1 : World} {s : St}

theorem St.own_upd {s : St} {k : ByteArray} {r r' : FRec} (hr : s.R k = some r) {t : Int} {n : Nat} (hblk : ∀ g, r'.blocks g → r.blocks g ∨ n ≤ g) : ∀ g, ({ s with R := updR s.R k (some r'), turn := t } : St).own g → s.own g ∨ n ≤ g := fun g hg => by
  rcases hg with hg | hg | ⟨k', r2, hr2, hg⟩
  · exact .inl (.inl hg)
  · exact .inl (.inr (.inl hg))
  · by_cases e : k' = k
    · subst e
      cases updR_me hr2
      rcases hblk g hg with hb | hb
      · exact .inl (.inr (.inr ⟨k', r, hr, hb⟩))
      · exact .inr hb
    · exact .inl (.inr (.inr ⟨k', r2, updR_is e hr2, hg⟩))

theorem setCell_cells {w : World} {g i : Nat} {v : Value} {cs : Array Value} {t : TypeId} {fr : Nat × Nat} (h : w.heap[g]? = some (.cells cs t fr)) : (w.setCell ⟨g, i, none⟩ v).heap[g]? = some (.cells (cs.setIfInBounds i v) t fr) := by
  show (w.heap.modify g _)[g]? = _
  rw [Array.getElem?_modify, if_pos rfl, h]; rfl

theorem DiskAt.setData (h : DiskAt base w s) {k : ByteArray} {r : FRec} (hr : s.R k = some r) (v' : Value) (ds : List UInt8) (hd : DRow w1 v' ds) (hg : w.grownBy w1 r.dv.ownBlock)
    (hv : ∀ g, v'.ownBlock = some g → r.dv.ownBlock = some g ∨ w.heap.size ≤ g) (hlow : base ≤ w.heap.size) (hlen : ds.length ≤ 1048576) (hopen : openOf r.loose ≤ ds.length) :
    DiskAt base (w1.setCell ⟨r.F, 0, none⟩ v') { s with R := updR s.R k (some { r with dv := v', data := ds }) } ∧ Frame s { s with R := updR s.R k (some { r with dv := v', data := ds }) } w (w1.setCell ⟨r.F, 0, none⟩ v') := by
  have hrec := h.recs k r hr
  obtain ⟨ha1, ha2, ha3⟩ := hrec.apart
  have hFlt : r.F < w.heap.size := (Array.getElem?_eq_some_iff.1 hrec.blk).1
  have hF1 : w1.heap[r.F]? = some (.cells #[r.dv, r.lv] 83 (0, 0)) := (hg.block r.F hFlt (fun e => ha1 _ e.symm rfl)).trans hrec.blk
  have hkb : ∀ g, g < w.heap.size → ¬ r.blocks g → (w1.setCell ⟨r.F, 0, none⟩ v').heap[g]? = w.heap[g]? := fun g hlt hnb =>
    (Below.heap_setCell w1 ⟨r.F, 0, none⟩ v' g (fun e => hnb (.inl e))).trans (hg.block g hlt (fun e => hnb (.inr (.inl e.symm))))
  have hvF : ∀ g, v'.ownBlock = some g → g ≠ r.F := fun g hgv e => by
    rcases hv g hgv with hb | hb
    · exact ha1 g hb e
    · omega
  have hblk : ∀ g, ({ r with dv := v', data := ds } : FRec).blocks g → r.blocks g ∨ w.heap.size ≤ g := fun g hb => by
    rcases hb with hb | hb | hb
    · exact .inl (.inl hb)
    · rcases hv g hb with hb | hb
      · exact .inl (.inr (.inl hb))
      · exact .inr hb
    · exact .inl (.inr (.inr hb))
  refine ⟨h.change hr _ rfl ⟨?_, ?_, ?_, hlen, hrec.pos, hopen⟩ (fun g ho hnb => hkb g (h.lt ho) hnb) hblk hlow (fun p hp => h.turns k r p hr hp) (fun k' r2 i j p p' hne hr2 hp hp' e => hne (h.uniq k k' r r2 i j p p' hr hr2 hp hp' e).1.symm) (fun i j p p' hp hp' e => (h.uniq k k r r i j p p' hr hr hp hp' e).2), ?_⟩
  · exact setCell_cells hF1
  · exact hd.keep fun g hgv => Below.heap_setCell w1 ⟨r.F, 0, none⟩ v' g (hvF g hgv)
  · exact ownsRow_keep hrec.loose fun g hgl => (Below.heap_setCell w1 ⟨r.F, 0, none⟩ v' g (ha2 g hgl)).trans (hg.block g (hrec.lt (.inr (.inr hgl))) (fun e => ha3 g e.symm hgl))
  · refine ⟨hg.os, hg.tape, hg.output, Nat.le_trans hg.size (by simp [World.setCell]), fun g hlt ho => hkb g hlt fun hb => ho (.inr (.inr ⟨k, r, hr, hb⟩)), ?_⟩
    exact St.own_upd (t := s.turn) hr hblk

theorem openOf_snoc (l : List (Int × Int)) (p : Int × Int) : openOf (l ++ [p]) = openOf l + p.2 := by simp [openOf]

theorem DiskAt.setLoose (h : DiskAt base w s) {k : ByteArray} {r : FRec} (hr : s.R k = some r) (lv' : Value) (n : Int) (hd : w1.ownsRow 0 86 2 lv' (r.loose.length + 1) (pieceCells (r.loose ++ [(s.turn, n)]))) (hg : w.grownBy w1 r.lv.ownBlock)
    (hv : ∀ g, lv'.ownBlock = some g → r.lv.ownBlock = some g ∨ w.heap.size ≤ g) (hlow : base ≤ w.heap.size) (hn : 0 < n) (ht : 0 < s.turn) (hold : ∀ (k : ByteArray) (r : FRec) (p : Int × Int), s.R k = some r → p ∈ r.loose → p.1 < s.turn) (hopen : openOf r.loose + n ≤ r.data.length) :
    DiskAt base (w1.setCell ⟨r.F, 1, none⟩ lv') { s with R := updR s.R k (some { r with lv := lv', loose := r.loose ++ [(s.turn, n)] }) } ∧ Frame s { s with R := updR s.R k (some { r with lv := lv', loose := r.loose ++ [(s.turn, n)] }) } w (w1.setCell ⟨r.F, 1, none⟩ lv') := by
  have hrec := h.recs k r hr
  obtain ⟨ha1, ha2, ha3⟩ := hrec.apart
  have hFlt : r.F < w.heap.size := (Array.getElem?_eq_some_iff.1 hrec.blk).1
  have hF1 : w1.heap[r.F]? = some (.cells #[r.dv, r.lv] 83 (0, 0)) := (hg.block r.F hFlt (fun e => ha2 _ e.symm rfl)).trans hrec.blk
  have hkb : ∀ g, g < w.heap.size → ¬ r.blocks g → (w1.setCell ⟨r.F, 1, none⟩ lv').heap[g]? = w.heap[g]? := fun g hlt hnb =>
    (Below.heap_setCell w1 ⟨r.F, 1, none⟩ lv' g (fun e => hnb (.inl e))).trans (hg.block g hlt (fun e => hnb (.inr (.inr e.symm))))
  have hvF : ∀ g, lv'.ownBlock = some g → g ≠ r.F := fun g hgv e => by
    rcases hv g hgv with hb | hb
    · exact ha2 g hb e
    · omega
  have hblk : ∀ g, ({ r with lv := lv', loose := r.loose ++ [(s.turn, n)] } : FRec).blocks g → r.blocks g ∨ w.heap.size ≤ g := fun g hb => by
    rcases hb with hb | hb | hb
    · exact .inl (.inl hb)
    · exact .inl (.inr (.inl hb))
    · rcases hv g hb with hb | hb
      · exact .inl (.inr (.inr hb))
      · exact .inr hb
  have hin : ∀ (i : Nat) (p : Int × Int), (r.loose ++ [(s.turn, n)])[i]? = some p → (r.loose[i]? = some p ∧ i < r.loose.length) ∨ (p = (s.turn, n) ∧ i = r.loose.length) := fun i p hp => by
    by_cases e : i < r.loose.length
    · rw [List.getElem?_append_left e] at hp; exact .inl ⟨hp, e⟩
    · rw [List.getElem?_append_right (by omega)] at hp
      have h0 := (List.getElem?_eq_some_iff.1 hp).1
      simp at h0
      have e0 : i - r.loose.length = 0 := by omega
      rw [e0] at hp
      simp at hp
      exact .inr ⟨hp.symm, by omega⟩
  refine ⟨h.change hr _ rfl ⟨?_, ?_, ?_, hrec.few, fun p hp => ?_, ?_⟩ (fun g ho hnb => hkb g (h.lt ho) hnb) hblk hlow (fun p hp => ?_) (fun k' r2 i j p p' hne hr2 hp hp' e => ?_) (fun i j p p' hp hp' e => ?_), ?_⟩
  · exact setCell_cells hF1
  · exact hrec.data.keep fun g hgl => (Below.heap_setCell w1 ⟨r.F, 1, none⟩ lv' g (ha1 g hgl)).trans (hg.block g (hrec.lt (.inr (.inl hgl))) (fun e => ha3 g hgl e.symm))
  · refine ownsRow_keep ?_ fun g hgv => Below.heap_setCell w1 ⟨r.F, 1, none⟩ lv' g (hvF g hgv)
    simpa using hd
  · rcases List.mem_append.1 hp with hp | hp
    · exact hrec.pos p hp
    · obtain rfl : p = (s.turn, n) := by simpa using hp
      exact hn
  · show openOf (r.loose ++ [(s.turn, n)]) ≤ _
    rw [openOf_snoc]; exact hopen
  · rcases List.mem_append.1 hp with hp | hp
    · exact h.turns k r p hr hp
    · obtain rfl : p = (s.turn, n) := by simpa using hp
      exact ⟨ht, Int.le_refl _⟩
  · rcases hin i p hp with ⟨hp, _⟩ | ⟨rfl, _⟩
    · exact hne (h.uniq k k' r r2 i j p p' hr hr2 hp hp' e).1.symm
    · have := hold k' r2 p' hr2 (List.mem_of_getElem? hp')
      simp only at e
      omega
  · rcases hin i p hp with ⟨hp, hi⟩ | ⟨rfl, hi⟩
    · rcases hin j p' hp' with ⟨hp', hj⟩ | ⟨rfl, hj⟩
      · exact (h.uniq k k r r i j p p' hr hr hp hp' e).2
      · have := hold k r p hr (List.mem_of_getElem? hp)
        simp only at e
        omega
    · rcases hin j p' hp' with ⟨hp', hj⟩ | ⟨rfl, hj⟩
      · have := hold k r p' hr (List.mem_of_getElem? hp')
        simp only at e
        omega
      · omega
  · refine ⟨hg.os, hg.tape, hg.output, Nat.le_trans hg.size (by simp [World.setCell]), fun g hlt ho => hkb g hlt fun hb => ho (.inr (.inr ⟨k, r, hr, hb⟩)), ?_⟩
    exact St.own_upd (t := s.turn) hr hblk

theorem setTurn_frame (h : DiskAt base w s) (t : Int) : Frame s { s with turn := t } w (w.setCell ⟨s.B, 1, none⟩ (.int .i64 t)) :=
  ⟨rfl, rfl, rfl, by simp [World.setCell], fun g _ ho => Below.heap_setCell w ⟨s.B, 1, none⟩ _ g (fun e => ho (.inl e)), fun g hg => .inl hg⟩
end
end Go.Proofs.YthokoimoiamddaaGreatDoor
set_option linter.unusedSimpArgs false
set_option linter.unusedVariables false
namespace Go.Proofs.YthokoimoiamddaaGreatDoor
open Go Go.RowKit
open Go.ChangeMaps (setBlock)

/-- What Append answers. -/
def appE (s : St) (k : ByteArray) (n : Nat) : Option Int :=
  if nmB k = true then (match s.R k with
    | none => if 64 ≤ s.L.length then some 11 else if 1048576 < n then some 2 else none
    | some r => if 1048576 < n then some 2 else if 1048576 < r.data.length + n then some 2 else none)
  else some 1

theorem DiskAt.lenMap {base : Nat} {w : World} {s : St} (h : DiskAt base w s) (ty : TypeId) : (Builtin.len_ #[58] ty #[.map (some s.M)]).run Tryz.prog w = .ok (.int .i64 s.L.length) w := by
  have hm := h.map
  unfold MapAt at hm
  have := run_len_map (P := Tryz.prog) (w := w) 58 ty s.M _ s.c (by kernel_rfl) hm
  simpa [goInt] using this

theorem append_nil (k : ByteArray) (A : Option Addr) (n c : Nat) (w : World) : Calls Tryz.prog 48 #[.pointer none, .string k, .slice A n c] w fun e w' => e = .returned (.iface 42 (.int .i64 19)) ∧ w = w' := by
  go_enter Tryz.func48, Tryz.ntmps48
  go_wp2
  go_ret
  exact ⟨rfl, rfl⟩

theorem append_name (s : St) (k : ByteArray) (A : Option Addr) (n c : Nat) (w : World) (hk : k.size ≤ 4611686018427387904) (h : nmB k = false) : Calls Tryz.prog 48 #[.pointer (some ⟨s.B, 0, none⟩), .string k, .slice A n c] w fun e w' => e = .returned (.iface 42 (.int .i64 1)) ∧ w = w' := by
  have HN := Lib.hid (dname_any k w hk)
  rw [h] at HN
  clear h
  go_enter Tryz.func48, Tryz.ntmps48
  go_wp2_with (go_at_call 72; refine HN.out.mono ?_; rintro e w' ⟨rfl, rfl⟩)
  go_ret
  exact ⟨rfl, rfl⟩

theorem append_full (base : Nat) (s : St) (k : ByteArray) (A : Option Addr) (n c : Nat) (w : World) (hd : DiskAt base w s) (hk : k.size ≤ 4611686018427387904) (h : nmB k = true) (hr : s.R k = none) (hf : 64 ≤ s.L.length) : Calls Tryz.prog 48 #[.pointer (some ⟨s.B, 0, none⟩), .string k, .slice A n c] w fun e w' => e = .returned (.iface 42 (.int .i64 11)) ∧ w = w' := by
  have HN := Lib.hid (dname_any k w hk)
  rw [h] at HN
  obtain ⟨c0, _, _⟩ := hd.cells
  have hl := hd.look k
  rw [hr] at hl
  simp only [Option.map_none, Option.getD_none] at hl
  have hlen := hd.lenMap
  obtain ⟨q, hq⟩ : ∃ q, Hid (s.L.length = q) := ⟨_, rfl⟩
  rw [hq.out] at hlen hf
  have d : decide ((q : Int) ≥ 64) = true := by rw [decide_eq_true_iff]; omega
  clear h hd hr hf
  go_enter Tryz.func48, Tryz.ntmps48
  go_wp2_with (go_at_call 72; refine HN.out.mono ?_; rintro e w' ⟨rfl, rfl⟩)
  go_ret
  exact ⟨rfl, rfl⟩

theorem append_long_new (base : Nat) (s : St) (k : ByteArray) (A : Option Addr) (n c : Nat) (w : World) (hd : DiskAt base w s) (hk : k.size ≤ 4611686018427387904) (h : nmB k = true) (hr : s.R k = none) (hf : ¬ 64 ≤ s.L.length) (hn : 1048576 < n) : Calls Tryz.prog 48 #[.pointer (some ⟨s.B, 0, none⟩), .string k, .slice A n c] w fun e w' => e = .returned (.iface 42 (.int .i64 2)) ∧ w = w' := by
  have HN := Lib.hid (dname_any k w hk)
  rw [h] at HN
  obtain ⟨c0, _, _⟩ := hd.cells
  have hl := hd.look k
  rw [hr] at hl
  simp only [Option.map_none, Option.getD_none] at hl
  have hlen := hd.lenMap
  obtain ⟨q, hq⟩ : ∃ q, Hid (s.L.length = q) := ⟨_, rfl⟩
  rw [hq.out] at hlen hf
  have d : decide ((q : Int) ≥ 64) = false := by rw [decide_eq_false_iff_not]; omega
  have d1 : decide ((n : Int) > 1048576) = true := by rw [decide_eq_true_iff]; omega
  clear h hd hr hf
  go_enter Tryz.func48, Tryz.ntmps48
  go_wp2_with (go_at_call 72; refine HN.out.mono ?_; rintro e w' ⟨rfl, rfl⟩)
  go_ret
  exact ⟨rfl, rfl⟩

theorem append_long (base : Nat) (s : St) (k : ByteArray) (r : FRec) (A : Option Addr) (n c : Nat) (w : World) (hd : DiskAt base w s) (hk : k.size ≤ 4611686018427387904) (h : nmB k = true) (hr : s.R k = some r) (hn : 1048576 < n ∨ (¬ 1048576 < n ∧ 1048576 < r.data.length + n)) : Calls Tryz.prog 48 #[.pointer (some ⟨s.B, 0, none⟩), .string k, .slice A n c] w fun e w' => e = .returned (.iface 42 (.int .i64 2)) ∧ w = w' := by
  have HN := Lib.hid (dname_any k w hk)
  rw [h] at HN
  obtain ⟨c0, _, _⟩ := hd.cells
  have hl := hd.look k
  rw [hr] at hl
  simp only [Option.map_some, Option.getD_some, ptrF] at hl
  have hrec := hd.recs k r hr
  obtain ⟨f0, _, _⟩ := hrec.cells
  obtain ⟨Ad, cd, hdv, _⟩ := hrec.data.slice
  rw [hdv] at f0
  have hfew := hrec.few
  obtain ⟨dl, hdl⟩ : ∃ q, Hid (r.data.length = q) := ⟨_, rfl⟩
  rw [hdl.out] at f0 hn hfew
  rcases hn with hn | ⟨hn, hn2⟩
  · have d1 : decide ((n : Int) > 1048576) = true := by rw [decide_eq_true_iff]; omega
    clear h hd hr hrec hn
    go_enter Tryz.func48, Tryz.ntmps48
    go_wp2_with (go_at_call 72; refine HN.out.mono ?_; rintro e w' ⟨rfl, rfl⟩)
    go_ret
    exact ⟨rfl, rfl⟩
  · have d1 : decide ((n : Int) > 1048576) = false := by rw [decide_eq_false_iff_not]; omega
    have hw : IntKind.i64.wrap ((dl : Int) + n) = ((dl + n : Nat) : Int) := by rw [IntKind.wrap_i64]; omega
    have d2 : decide (((dl + n : Nat) : Int) > 1048576) = true := by rw [decide_eq_true_iff]; omega
    have d3 : 1048576 < (dl : Int) + n := by omega
    clear h hd hr hrec hn hn2
    go_enter Tryz.func48, Tryz.ntmps48
    go_wp2_with (go_at_call 72; refine HN.out.mono ?_; rintro e w' ⟨rfl, rfl⟩)
    go_ret
    exact ⟨rfl, rfl⟩
end Go.Proofs.YthokoimoiamddaaGreatDoor
