/-
  A map known exactly (its entries in order): look-up, store, delete, len as equations of the model's run, over any program. Own work.
-/
import Derived.WalkKit
import Derived.Deep.Draws
import Derived.Maps.OwnOps
import Derived.Maps.OwnSet
set_option linter.unusedSimpArgs false
set_option linter.unusedVariables false
namespace Go.Proofs.YtlkfcfcejicdkaaGreatDoor
open Go Go.RowKit
open Go.ChangeMaps (setBlock)

/-- One entry: key, value, the clock at its birth. -/
structure MEnt (κ : Type) where
  k : κ
  v : Value
  b : Nat

def MEnt.ent {κ : Type} (kv : κ → Value) (e : MEnt κ) : MapEntry := { key := kv e.k, val := e.v, born := e.b }

/-- Block b is just the map of these entries. -/
def MapAt {κ : Type} (kv : κ → Value) (w : World) (b : Nat) (L : List (MEnt κ)) (c : Nat) : Prop :=
  w.heap[b]? = some (.map (L.map (MEnt.ent kv)).toArray c)

section
variable {κ : Type} {kv : κ → Value} {w : World} {b c : Nat} {L : List (MEnt κ)}
theorem MapAt.lt (h : MapAt kv w b L c) : b < w.heap.size := (Array.getElem?_eq_some_iff.1 h).1
theorem MapAt.alloc (h : MapAt kv w b L c) (o : Obj) : MapAt kv (w.alloc o) b L c := (Below.heap_alloc w o b h.lt).trans h
theorem MapAt.setCell (h : MapAt kv w b L c) (a : Addr) (u : Value) (hn : b ≠ a.block) : MapAt kv (w.setCell a u) b L c := (Below.heap_setCell w a u b hn).trans h
theorem MapAt.drew (h : MapAt kv w b L c) : MapAt kv w.drew b L c := h
theorem MapAt.drewN (h : MapAt kv w b L c) (n : Nat) : MapAt kv (w.drewN n) b L c := h
theorem MapAt.new (w : World) : MapAt kv (w.alloc (.map #[] 0)) w.heap.size [] 0 := by
  unfold MapAt; rw [heap_alloc_new]; rfl
theorem mapAt_setBlock {L' : List (MEnt κ)} {c' : Nat} (h : b < w.heap.size) : MapAt kv (setBlock w b (.map (L'.map (MEnt.ent kv)).toArray c')) b L' c' := by
  unfold MapAt setBlock
  simp [h]
theorem setBlock_other (o : Obj) {w : World} {b k : Nat} (h : k ≠ b) : (setBlock w b o).heap[k]? = w.heap[k]? := by
  unfold setBlock
  simp only
  rw [Array.getElem?_setIfInBounds_ne (fun e => h e.symm)]
end

section
variable {κ : Type} [DecidableEq κ]

def lkE (k : κ) : List (MEnt κ) → Nat → Option (Nat × Value)
  | [], _ => none
  | e :: L, i => if k = e.k then some (i, e.v) else lkE k L (i + 1)

def lkV (k : κ) : List (MEnt κ) → Option Value
  | [] => none
  | e :: L => if k = e.k then some e.v else lkV k L

def putE (k : κ) (v : Value) (c : Nat) : List (MEnt κ) → List (MEnt κ)
  | [] => [⟨k, v, c⟩]
  | e :: L => if k = e.k then ⟨e.k, v, e.b⟩ :: L else e :: putE k v c L

def clkE (k : κ) (L : List (MEnt κ)) (c : Nat) : Nat := if (lkV k L).isSome then c else c + 1

def delE (k : κ) : List (MEnt κ) → List (MEnt κ)
  | [] => []
  | e :: L => if k = e.k then L else e :: delE k L

theorem lkE_none {k : κ} {L : List (MEnt κ)} : ∀ {i : Nat}, lkE k L i = none ↔ lkV k L = none := by
  induction L with
  | nil => intro i; simp [lkE, lkV]
  | cons e L ih => intro i; simp only [lkE, lkV]; split <;> simp [ih]

theorem lkE_val {k : κ} {L : List (MEnt κ)} : ∀ {i : Nat}, (lkE k L i).map (·.2) = lkV k L := by
  induction L with
  | nil => intro i; simp [lkE, lkV]
  | cons e L ih => intro i; simp only [lkE, lkV]; split <;> simp [ih]

theorem lkE_some {k : κ} {L : List (MEnt κ)} : ∀ {i j : Nat} {v : Value}, lkE k L i = some (j, v) →
    ∃ p, j = i + p ∧ p < L.length ∧ (∀ (kv : κ → Value) (x : Value), ((L.map (MEnt.ent kv)).modify p fun e => { e with key := kv k, val := x }) = (putE k x 0 L).map (MEnt.ent kv)) ∧
      (∀ (kv : κ → Value), ((L.map (MEnt.ent kv))[p]?).map (·.key) = some (kv k)) ∧ (∀ (kv : κ → Value), (L.map (MEnt.ent kv)).eraseIdx p = (delE k L).map (MEnt.ent kv)) := by
  induction L with
  | nil => intro i j v h; simp [lkE] at h
  | cons e L ih =>
    intro i j v h
    simp only [lkE] at h
    split at h
    · rename_i hk
      simp only [Option.some.injEq, Prod.mk.injEq] at h
      subst hk
      refine ⟨0, by omega, by simp, ?_, ?_, ?_⟩
      · intro kv x; simp [putE, MEnt.ent]
      · intro kv; simp [MEnt.ent]
      · intro kv; simp [delE]
    · rename_i hk
      obtain ⟨p, h1, h2, h3, h4, h5⟩ := ih h
      refine ⟨p + 1, by omega, by simp; omega, ?_, ?_, ?_⟩
      · intro kv x; simp only [List.map_cons, List.modify_succ_cons, putE, if_neg hk, h3 kv x]
      · intro kv; simpa using h4 kv
      · intro kv; simp only [List.map_cons, List.eraseIdx_cons_succ, delE, if_neg hk, h5 kv]

theorem putE_some {k : κ} {L : List (MEnt κ)} {v : Value} (h : (lkV k L).isSome) (c c' : Nat) : putE k v c L = putE k v c' L := by
  induction L with
  | nil => simp [lkV] at h
  | cons e L ih =>
    simp only [putE, lkV] at h ⊢
    split
    · rfl
    · rename_i hk; rw [if_neg hk] at h; rw [ih h]

theorem putE_none {k : κ} {L : List (MEnt κ)} {v : Value} {c : Nat} (h : lkV k L = none) : putE k v c L = L ++ [⟨k, v, c⟩] := by
  induction L with
  | nil => rfl
  | cons e L ih =>
    simp only [putE, lkV] at h ⊢
    split
    · rename_i hk; rw [if_pos hk] at h; simp at h
    · rename_i hk; rw [if_neg hk] at h; simp [ih h]

theorem delE_none {k : κ} {L : List (MEnt κ)} (h : lkV k L = none) : delE k L = L := by
  induction L with
  | nil => rfl
  | cons e L ih =>
    simp only [delE, lkV] at h ⊢
    split
    · rename_i hk; rw [if_pos hk] at h; simp at h
    · rename_i hk; rw [if_neg hk] at h; simp [ih h]

theorem lkV_put {k k' : κ} {L : List (MEnt κ)} {v : Value} {c : Nat} : lkV k' (putE k v c L) = if k' = k then some v else lkV k' L := by
  induction L with
  | nil => simp [putE, lkV]
  | cons e L ih =>
    simp only [putE]
    split
    · rename_i hk
      subst hk
      simp only [lkV]
      split <;> simp
    · rename_i hk
      simp only [lkV, ih]
      split
      · rename_i h; subst h; rw [if_neg (fun h => hk h.symm)]
      · rfl

/-- What the key's type must bear: proved once for a type. -/
structure KeyOps (P : Program) (K : TypeId) (kv : κ → Value) : Prop where
  check : ∀ (e : Bool) (k : κ) (w : World), (Instr.checkKey e 10000 K (kv k)).run P w = .ok () w
  find : ∀ (k : κ) (L : List (MEnt κ)) (w : World), (Instr.findKey K (kv k) (L.map (MEnt.ent kv))).run P w = .ok (lkE k L 0) w
  stays : ∀ (k : κ) (w : World), (Instr.keyThatStays (kv k) (kv k)).run P w = .ok (kv k) w

variable {P : Program} {K : TypeId} {kv : κ → Value} {w : World} {b c : Nat} {L : List (MEnt κ)}

theorem run_look (ko : KeyOps P K kv) {T E : TypeId} (ht : P.underlying T = some (.map K E)) {z : Value} (hz : ∀ w, (zeroValue E).run P w = .ok z w) (h : MapAt kv w b L c) (k : κ) :
    (Instr.lookup T (.map (some b)) (kv k) false).run P w = .ok ((lkV k L).getD z) w := by
  unfold MapAt at h
  simp only [Instr.lookup, Sem.run_bind, run_underlying ht, Result.andThen_ok, getObj, Sem.run, h, Sem.run_pure, ko.check, ko.find]
  rw [← lkE_val (i := 0)]
  cases lkE k L 0 with
  | none => simp [hz]
  | some x => simp

theorem run_look_ok (ko : KeyOps P K kv) {T E : TypeId} (ht : P.underlying T = some (.map K E)) {z : Value} (hz : ∀ w, (zeroValue E).run P w = .ok z w) (h : MapAt kv w b L c) (k : κ) :
    (Instr.lookup T (.map (some b)) (kv k) true).run P w = .ok (.tuple #[(lkV k L).getD z, .bool (lkV k L).isSome]) w := by
  unfold MapAt at h
  simp only [Instr.lookup, Sem.run_bind, run_underlying ht, Result.andThen_ok, getObj, Sem.run, h, Sem.run_pure, ko.check, ko.find]
  rw [← lkE_val (i := 0)]
  cases lkE k L 0 with
  | none => simp [hz]
  | some x => simp

theorem run_store_map (ko : KeyOps P K kv) {T E : TypeId} (ht : P.underlying T = some (.map K E)) (h : MapAt kv w b L c) (k : κ) (v : Value) :
    (Instr.mapUpdate T (.map (some b)) (kv k) v).run P w = .ok () (setBlock w b (.map ((putE k v c L).map (MEnt.ent kv)).toArray (clkE k L c))) := by
  have h0 := h
  unfold MapAt at h
  simp only [Instr.mapUpdate, Sem.run_bind, run_underlying ht, Result.andThen_ok, getObj, Sem.run, h, Sem.run_pure, ko.check, ko.find]
  cases hl : lkE k L 0 with
  | none =>
    have hv := lkE_none.1 hl
    simp only [clkE, hv, Option.isSome_none, Bool.false_eq_true, if_false, putE_none hv]
    simp [setObj, Sem.run, h, setBlock, MEnt.ent]
  | some x =>
    obtain ⟨j, u⟩ := x
    obtain ⟨p, h1, h2, h3, h4, _⟩ := lkE_some hl
    have hj : j = p := by omega
    subst hj
    have hs : (lkV k L).isSome = true := by rw [← lkE_val (i := 0), hl]; rfl
    have e1 : (((L.map (MEnt.ent kv)).toArray[j]?).map (·.key)).getD (kv k) = kv k := by
      rw [List.getElem?_toArray, h4 kv]; rfl
    simp only [Sem.run_bind, e1, ko.stays, Result.andThen_ok, clkE, hs, if_true]
    simp only [setObj, Sem.run, h, List.modify_toArray, h3 kv v, putE_some hs 0 c, setBlock]

theorem run_drop (ko : KeyOps P K kv) {T E ty : TypeId} {TT : Array TypeId} (ht : P.underlying T = some (.map K E)) (hT : TT[0]? = some T) (h : MapAt kv w b L c) (k : κ) :
    (Builtin.delete_ TT ty #[.map (some b), kv k]).run P w = .ok (.tuple #[]) (setBlock w b (.map ((delE k L).map (MEnt.ent kv)).toArray c)) := by
  unfold MapAt at h
  simp only [Builtin.delete_, hT, Sem.run_bind, run_underlying ht, Result.andThen_ok, getObj, Sem.run, h, Sem.run_pure, ko.check, ko.find, List.getElem?_toArray, List.getElem?_cons_zero, List.getElem?_cons_succ]
  cases hl : lkE k L 0 with
  | none =>
    have hv := lkE_none.1 hl
    simp [setObj, Sem.run, h, setBlock, delE_none hv]
  | some x =>
    obtain ⟨j, u⟩ := x
    obtain ⟨p, h1, h2, h3, h4, h5⟩ := lkE_some hl
    have hj : j = p := by omega
    subst hj
    simp [setObj, Sem.run, h, setBlock, ← h5 kv, Array.eraseIdxIfInBounds, h2]

end

section
variable {κ : Type} [DecidableEq κ] {P : Program} {K : TypeId} {kv : κ → Value} {b c : Nat} {L : List (MEnt κ)}
variable {ops : Array Oper} {rest : List Oper} {o : Oper} {a : Act} {Q : Exit → Act → World → Prop} (w : World)

theorem wpList_look_at (hg : o.guard = none) (m x : Operand) (T : TypeId) (hop : o.op = Op.lookup T m x false) (E : TypeId) (ko : KeyOps P K kv) (ht : P.underlying T = some (.map K E))
    (z : Value) (hz : ∀ w, (zeroValue E).run P w = .ok z w) (hm : a.eval m = .map (some b)) (hat : MapAt kv w b L c) (k : κ) (hx : a.eval x = kv k)
    (hK : wpList P ops Q rest (a.put o.dst ((lkV k L).getD z)) w) : wpList P ops Q (o :: rest) a w := by
  refine wpList_plain hg fun K' hK' => ?_
  unfold Oper.wp
  simp [execOp, hop, hm, hx, run_look ko ht hz hat k, Result.andThen]
  exact hK' _ _ hK

theorem wpList_look_ok_at (hg : o.guard = none) (m x : Operand) (T : TypeId) (hop : o.op = Op.lookup T m x true) (E : TypeId) (ko : KeyOps P K kv) (ht : P.underlying T = some (.map K E))
    (z : Value) (hz : ∀ w, (zeroValue E).run P w = .ok z w) (hm : a.eval m = .map (some b)) (hat : MapAt kv w b L c) (k : κ) (hx : a.eval x = kv k)
    (hK : wpList P ops Q rest (a.put o.dst (.tuple #[(lkV k L).getD z, .bool (lkV k L).isSome])) w) : wpList P ops Q (o :: rest) a w := by
  refine wpList_plain hg fun K' hK' => ?_
  unfold Oper.wp
  simp [execOp, hop, hm, hx, run_look_ok ko ht hz hat k, Result.andThen]
  exact hK' _ _ hK

theorem setBlock_grown (w : World) (b : Nat) (o : Obj) : w.grownBy (setBlock w b o) (some b) :=
  ⟨rfl, rfl, rfl, by simp [setBlock], fun k _ hk => setBlock_other o (fun e => hk (by rw [e]))⟩

theorem wpList_store_at (hg : o.guard = none) (m x v : Operand) (T : TypeId) (hop : o.op = Op.mapUpdate T m x v) (E : TypeId) (ko : KeyOps P K kv) (ht : P.underlying T = some (.map K E))
    (hm : a.eval m = .map (some b)) (hat : MapAt kv w b L c) (k : κ) (hx : a.eval x = kv k) (val : Value) (hv : a.eval v = val)
    (hK : ∀ w' c', MapAt kv w' b (putE k val c L) c' → w.grownBy w' (some b) → wpList P ops Q rest (a.put o.dst undef) w') : wpList P ops Q (o :: rest) a w := by
  refine wpList_plain hg fun K' hK' => ?_
  unfold Oper.wp
  simp [execOp, hop, hm, hx, hv, run_store_map ko ht hat k val, Result.andThen]
  exact hK' _ _ (hK _ _ (mapAt_setBlock hat.lt) (setBlock_grown w b _))
end

/-- Keys that are structs of two ints. -/
def pairV (x : Int × Int) : Value := .agg #[.int .i64 x.1, .int .i64 x.2]

theorem findAsking_of {κ : Type} [DecidableEq κ] {P : Program} {K : TypeId} {kv : κ → Value} (heq : ∀ (x y : κ) (w : World), (Op.equal K (kv x) (kv y)).run P w = .ok (decide (x = y)) w) (k : κ) (L : List (MEnt κ)) (w : World) :
    ∀ i, (Instr.findAsking K (kv k) (L.map (MEnt.ent kv)) i).run P w = .ok (lkE k L i) w := by
  induction L with
  | nil => intro i; rfl
  | cons e L ih =>
    intro i
    simp only [List.map_cons, Instr.findAsking, Sem.run_bind, MEnt.ent, heq, Result.andThen_ok, lkE]
    by_cases h : k = e.k
    · simp [h]
    · simp [h, ← ih (i + 1), MEnt.ent]

theorem findKey_struct {κ : Type} [DecidableEq κ] {P : Program} {K : TypeId} {kv : κ → Value} {fs : Array Field} (hu : P.underlying K = some (.struct fs)) (heq : ∀ (x y : κ) (w : World), (Op.equal K (kv x) (kv y)).run P w = .ok (decide (x = y)) w) (k : κ) (L : List (MEnt κ)) (w : World) :
    (Instr.findKey K (kv k) (L.map (MEnt.ent kv))).run P w = .ok (lkE k L 0) w := by
  simp only [Instr.findKey, Sem.run_bind, run_underlying hu, Result.andThen_ok]
  cases L with
  | nil => rfl
  | cons e L =>
    have : Instr.findNow (.struct fs) (kv k) ((e :: L).map (MEnt.ent kv)) 0 = none := by
      simp [Instr.findNow, Instr.sameNow]
    rw [this]
    exact findAsking_of heq k (e :: L) w 0

theorem pair_stays (P : Program) (x : Int × Int) (w : World) : (Instr.keyThatStays (pairV x) (pairV x)).run P w = .ok (pairV x) w := by
  have : Instr.sameBits 10000 (pairV x) (pairV x) = true := by
    simp [pairV, Instr.sameBits]
  simp [Instr.keyThatStays, this]

theorem pair_keyOps {P : Program} {K : TypeId} {fs : Array Field} (hu : P.underlying K = some (.struct fs)) (hc : ∀ (e : Bool) (x : Int × Int) (w : World), (Instr.checkKey e 10000 K (pairV x)).run P w = .ok () w)
    (heq : ∀ (x y : Int × Int) (w : World), (Op.equal K (pairV x) (pairV y)).run P w = .ok (decide (x = y)) w) : KeyOps P K pairV :=
  ⟨hc, fun k L w => findKey_struct hu heq k L w, fun x w => pair_stays P x w⟩
end Go.Proofs.YtlkfcfcejicdkaaGreatDoor
