/-
  disk: what a crash leaves, in plain Lean; maps whose keys are ints; an append of pieces. Own work.
-/
import Derived.Test.YtfhdcjfkngflbaaDoorDiskSort
set_option linter.unusedSimpArgs false
set_option linter.unusedVariables false
namespace Go.Proofs.YtfhdcjfkngflbaaDoor
open Go Go.RowKit
open Go.ChangeMaps (setBlock)

def intV (i : Int) : Value := .int .i64 i
theorem int_check (e : Bool) (x : Int) (w : World) : (Instr.checkKey e 10000 3 (intV x)).run Tryd.prog w = .ok () w := by kernel_rfl
theorem int_find (k : Int) (L : List (MEnt Int)) (w : World) : (Instr.findKey 3 (intV k) (L.map (MEnt.ent intV))).run Tryd.prog w = .ok (lkE k L 0) w := by
  have h : ∀ (L : List (MEnt Int)) i, Instr.findNow (.int .i64) (intV k) (L.map (MEnt.ent intV)) i = some (lkE k L i) := by
    intro L
    induction L with
    | nil => intro i; rfl
    | cons e L ih =>
      intro i
      simp only [List.map_cons, Instr.findNow, MEnt.ent, intV, Instr.sameNow, lkE]
      by_cases h : k = e.k
      · simp [h]
      · have h2 : (k == e.k) = false := by simpa using h
        simp only [if_true, h2, if_neg h]
        exact ih (i + 1)
  simp only [Instr.findKey, Sem.run_bind, run_underlying Tryd.underlying3, Result.andThen_ok, h]
  rfl
theorem int_stays (k : Int) (w : World) : (Instr.keyThatStays (intV k) (intV k)).run Tryd.prog w = .ok (intV k) w := by
  have : Instr.sameBits 10000 (intV k) (intV k) = true := by simp [intV, Instr.sameBits]
  simp [Instr.keyThatStays, this]
theorem int_keys : KeyOps Tryd.prog 3 intV := ⟨int_check, int_find, int_stays⟩

/-- The pieces of the files that have come. -/
def looseK (s : St) (k : ByteArray) : List (Int × Int) := match s.R k with | some r => r.loose | none => []
def allOf (s : St) (dn : List (MEnt ByteArray)) : List (Int × Int) := dn.flatMap fun e => looseK s e.k
theorem allOf_snoc (s : St) (dn : List (MEnt ByteArray)) (e : MEnt ByteArray) : allOf s (dn ++ [e]) = allOf s dn ++ looseK s e.k := by simp [allOf]
theorem allOf_perm (s : St) {a b : List (MEnt ByteArray)} (h : a.Perm b) : (allOf s a).Perm (allOf s b) := by
  unfold allOf
  exact h.flatMap_right _
theorem looseK_some {s : St} {k : ByteArray} {r : FRec} (h : s.R k = some r) : looseK s k = r.loose := by unfold looseK; rw [h]
theorem looseK_open (s : St) (k : ByteArray) : openOf (looseK s k) = openK s k := by
  unfold looseK openK
  cases s.R k <;> simp [openOf]
theorem allOf_open (s : St) (dn : List (MEnt ByteArray)) : openOf (allOf s dn) = sumK s dn := by
  induction dn with
  | nil => rfl
  | cons e l ih =>
    have e1 : allOf s (e :: l) = looseK s e.k ++ allOf s l := by simp [allOf]
    rw [e1, openOf_append, ih, looseK_open]
    simp [sumK]

/-- What is left of each piece, in the order of the turns. -/
def kAft : List (Int × Int) → Int → Int
  | [], k => k
  | p :: l, k => kAft l (k - min k p.2)
def leftP : List (Int × Int) → Int → List (Int × Int)
  | [], _ => []
  | p :: l, k => (p.1, min k p.2) :: leftP l (k - min k p.2)
def lookP : List (Int × Int) → Int → Option Int
  | [], _ => none
  | p :: l, t => match lookP l t with
    | some v => some v
    | none => if t = p.1 then some p.2 else none
theorem kAft_snoc (l : List (Int × Int)) (p : Int × Int) (k : Int) : kAft (l ++ [p]) k = kAft l k - min (kAft l k) p.2 := by
  induction l generalizing k with
  | nil => rfl
  | cons q l ih => simp only [List.cons_append, kAft, ih]
theorem leftP_snoc (l : List (Int × Int)) (p : Int × Int) (k : Int) : leftP (l ++ [p]) k = leftP l k ++ [(p.1, min (kAft l k) p.2)] := by
  induction l generalizing k with
  | nil => rfl
  | cons q l ih => simp only [List.cons_append, leftP, kAft, ih]
theorem lookP_snoc (l : List (Int × Int)) (p : Int × Int) (t : Int) : lookP (l ++ [p]) t = if t = p.1 then some p.2 else lookP l t := by
  induction l with
  | nil => simp [lookP]
  | cons q l ih =>
    simp only [List.cons_append, lookP, ih]
    by_cases h : t = p.1
    · simp [h]
    · simp [h]
theorem kAft_bd (l : List (Int × Int)) (k : Int) (hk : 0 ≤ k) (h : ∀ p ∈ l, 0 < p.2) : 0 ≤ kAft l k ∧ kAft l k ≤ k := by
  induction l generalizing k with
  | nil => simp [kAft]; exact hk
  | cons p l ih =>
    have hp := h p (by simp)
    have := ih (k - min k p.2) (by omega) (fun q hq => h q (by simp [hq]))
    simp only [kAft]; omega
theorem leftP_mem (l : List (Int × Int)) (k : Int) (hk : 0 ≤ k) (h : ∀ p ∈ l, 0 < p.2) (x : Int × Int) (hx : x ∈ leftP l k) : ∃ p ∈ l, p.1 = x.1 ∧ 0 ≤ x.2 ∧ x.2 ≤ p.2 := by
  induction l generalizing k with
  | nil => simp [leftP] at hx
  | cons p l ih =>
    have hp := h p (by simp)
    simp only [leftP] at hx
    rcases List.mem_cons.1 hx with rfl | hx
    · exact ⟨p, by simp, rfl, by simp only; omega, by simp only; omega⟩
    · obtain ⟨q, hq, h1⟩ := ih (k - min k p.2) (by omega) (fun q hq => h q (by simp [hq])) hx
      exact ⟨q, by simp [hq], h1⟩
theorem lookP_mem {l : List (Int × Int)} {t v : Int} (h : lookP l t = some v) : (t, v) ∈ l := by
  induction l with
  | nil => simp [lookP] at h
  | cons p l ih =>
    simp only [lookP] at h
    cases hl : lookP l t with
    | some u => rw [hl] at h; simp at h; subst h; exact List.mem_cons_of_mem _ (ih hl)
    | none =>
      rw [hl] at h
      simp only at h
      by_cases ht : t = p.1
      · rw [if_pos ht] at h; simp at h; subst h; subst ht; simp
      · rw [if_neg ht] at h; cases h
/-- What a crash leaves of the piece of a turn. -/
def leftF (l : List (Int × Int)) (keep t : Int) : Int := (lookP (leftP l keep) t).getD 0
theorem leftF_bd {l : List (Int × Int)} {keep : Int} (hk : 0 ≤ keep) (h : ∀ p ∈ l, 0 < p.2) (hs : l.Pairwise (fun a b => a.1 < b.1)) {p : Int × Int} (hp : p ∈ l) : 0 ≤ leftF l keep p.1 ∧ leftF l keep p.1 ≤ p.2 := by
  unfold leftF
  cases hv : lookP (leftP l keep) p.1 with
  | none => have := h p hp; simp; omega
  | some v =>
    obtain ⟨q, hq, h1, h2, h3⟩ := leftP_mem l keep hk h _ (lookP_mem hv)
    have hnd : (l.map (·.1)).Nodup := by
      rw [List.nodup_iff_pairwise_ne, List.pairwise_map]
      exact hs.imp fun hab => by omega
    have : q = p := inj_of_nodup hnd hq hp h1
    subst this
    simp only [Option.getD_some]
    exact ⟨h2, h3⟩

def leftSum (f : Int → Int) (l : List (Int × Int)) : Int := (l.map fun p => f p.1).sum
theorem leftSum_snoc (f : Int → Int) (l : List (Int × Int)) (p : Int × Int) : leftSum f (l ++ [p]) = leftSum f l + f p.1 := by simp [leftSum]
theorem leftSum_bd (f : Int → Int) (l : List (Int × Int)) (h : ∀ p ∈ l, 0 ≤ f p.1 ∧ f p.1 ≤ p.2) : 0 ≤ leftSum f l ∧ leftSum f l ≤ openOf l := by
  induction l with
  | nil => simp [leftSum, openOf]
  | cons p l ih =>
    have hp := h p (by simp)
    have := ih fun q hq => h q (by simp [hq])
    have e1 : leftSum f (p :: l) = f p.1 + leftSum f l := by simp [leftSum]
    have e2 : openOf (p :: l) = p.2 + openOf l := by simp [openOf]
    rw [e1, e2]; omega

/-- What a crash makes of a file, where f says what is left of each turn's piece. -/
def cutV : Value → Nat → Value
  | .slice A _ _, n => .slice A n n
  | v, _ => v
def keepN (f : Int → Int) (r : FRec) : Nat := ((r.data.length : Int) - openOf r.loose + leftSum f r.loose).toNat
def crashRec (f : Int → Int) (r : FRec) : FRec := { r with dv := cutV r.dv (keepN f r), lv := .slice none 0 0, data := r.data.take (keepN f r), loose := [] }

section
variable {base : Nat} {w w' : World} {s s' : St}
theorem DiskAt.mem_all (h : DiskAt base w s) {k : ByteArray} {r : FRec} (hr : s.R k = some r) {p : Int × Int} (hp : p ∈ r.loose) : p ∈ allOf s s.L := by
  have h8 := h.lk k
  rw [hr] at h8
  obtain ⟨e, he, hk, _⟩ := lkV_mem h8
  unfold allOf
  rw [List.mem_flatMap]
  refine ⟨e, he, ?_⟩
  rw [hk, looseK_some hr]; exact hp
theorem DiskAt.all_is (h : DiskAt base w s) {dn : List (MEnt ByteArray)} {p : Int × Int} (hp : p ∈ allOf s dn) : ∃ k r, s.R k = some r ∧ p ∈ r.loose := by
  unfold allOf at hp
  rw [List.mem_flatMap] at hp
  obtain ⟨e, he, hp⟩ := hp
  unfold looseK at hp
  cases hr : s.R e.k with
  | none => rw [hr] at hp; simp at hp
  | some r => rw [hr] at hp; exact ⟨e.k, r, hr, hp⟩
theorem DiskAt.all_bd (h : DiskAt base w s) {dn : List (MEnt ByteArray)} {p : Int × Int} (hp : p ∈ allOf s dn) : 0 < p.1 ∧ p.1 ≤ s.turn ∧ 0 < p.2 := by
  obtain ⟨k, r, hr, hp⟩ := h.all_is hp
  exact ⟨(h.turns k r p hr hp).1, (h.turns k r p hr hp).2, (h.recs k r hr).pos p hp⟩
theorem DiskAt.all_len (h : DiskAt base w s) (dn : List (MEnt ByteArray)) : ((allOf s dn).length : Int) ≤ sumK s dn := by
  rw [← allOf_open]
  exact len_open _ fun p hp => (h.all_bd hp).2.2
theorem DiskAt.all_nd (h : DiskAt base w s) : ((allOf s s.L).map (·.1)).Nodup := by
  have hk := h.wf.keys
  unfold allOf
  generalize s.L = L at hk
  induction L with
  | nil => simp
  | cons e L ih =>
    simp only [List.map_cons, List.nodup_cons] at hk
    simp only [List.flatMap_cons, List.map_append]
    refine List.nodup_append.2 ⟨?_, ih hk.2, ?_⟩
    · unfold looseK
      cases hr : s.R e.k with
      | none => simp
      | some r =>
        simp only
        rw [List.nodup_iff_pairwise_ne, List.pairwise_iff_getElem]
        intro i j hi hj hij he
        have hi' : i < r.loose.length := by simpa using hi
        have hj' : j < r.loose.length := by simpa using hj
        have := (h.uniq e.k e.k r r i j r.loose[i] r.loose[j] hr hr (List.getElem?_eq_getElem hi') (List.getElem?_eq_getElem hj') (by simpa using he)).2
        omega
    · intro a ha b hb hab
      subst hab
      obtain ⟨p, hp, hpa⟩ := List.mem_map.1 ha
      obtain ⟨q, hq, hqa⟩ := List.mem_map.1 hb
      unfold looseK at hp
      cases hr : s.R e.k with
      | none => rw [hr] at hp; simp at hp
      | some r =>
        rw [hr] at hp
        simp only at hp
        rw [List.mem_flatMap] at hq
        obtain ⟨e', he', hq⟩ := hq
        unfold looseK at hq
        cases hr' : s.R e'.k with
        | none => rw [hr'] at hq; simp at hq
        | some r' =>
          rw [hr'] at hq
          simp only at hq
          obtain ⟨i, hi⟩ := List.mem_iff_getElem?.1 hp
          obtain ⟨j, hj⟩ := List.mem_iff_getElem?.1 hq
          have := (h.uniq e.k e'.k r r' i j p q hr hr' hi hj (hpa.trans hqa.symm)).1
          exact hk.1 (this ▸ List.mem_map.2 ⟨e', he', rfl⟩)

theorem keepN_le {f : Int → Int} {r : FRec} (h : RecOK w r) (hf : ∀ p ∈ r.loose, 0 ≤ f p.1 ∧ f p.1 ≤ p.2) : (keepN f r : Int) = (r.data.length : Int) - openOf r.loose + leftSum f r.loose ∧ keepN f r ≤ r.data.length ∧ (r.data.length : Int) - openOf r.loose ≤ keepN f r := by
  have h1 := leftSum_bd f r.loose hf
  have h2 := h.sum
  unfold keepN
  omega

theorem DiskAt.crash (h : DiskAt base w s) (hlow : base ≤ w.heap.size) {k : ByteArray} {r : FRec} (hr : s.R k = some r) {f : Int → Int} (hf : ∀ p ∈ r.loose, 0 ≤ f p.1 ∧ f p.1 ≤ p.2) :
    DiskAt base ((w.setCell ⟨r.F, 0, none⟩ (cutV r.dv (keepN f r))).setCell ⟨r.F, 1, none⟩ (.slice none 0 0)) { s with R := updR s.R k (some (crashRec f r)) } ∧ Frame s { s with R := updR s.R k (some (crashRec f r)) } w ((w.setCell ⟨r.F, 0, none⟩ (cutV r.dv (keepN f r))).setCell ⟨r.F, 1, none⟩ (.slice none 0 0)) := by
  have hrec := h.recs k r hr
  obtain ⟨ha1, ha2, ha3⟩ := hrec.apart
  obtain ⟨Ad, cd, hdv, _⟩ := hrec.data.slice
  have hk : ∀ g, g ≠ r.F → ((w.setCell ⟨r.F, 0, none⟩ (cutV r.dv (keepN f r))).setCell ⟨r.F, 1, none⟩ (.slice none 0 0)).heap[g]? = w.heap[g]? := fun g hg => (Below.heap_setCell _ ⟨r.F, 1, none⟩ _ g hg).trans (Below.heap_setCell w ⟨r.F, 0, none⟩ _ g hg)
  have hdb : (cutV r.dv (keepN f r)).ownBlock = r.dv.ownBlock := by rw [hdv]; cases Ad <;> rfl
  have hblk : ∀ g, (crashRec f r).blocks g → r.blocks g ∨ w.heap.size ≤ g := fun g hb => by
    rcases hb with hb | hb | hb
    · exact .inl (.inl hb)
    · exact .inl (.inr (.inl (by rw [← hdb]; exact hb)))
    · cases hb
  have hn := (keepN_le hrec hf).2.1
  have hcut : DRow w (cutV r.dv (keepN f r)) (r.data.take (keepN f r)) := by
    have h1 := hrec.data
    rw [hdv] at h1 ⊢
    exact (h1.cut _ hn).1
  refine ⟨h.change hr _ rfl ⟨?_, ?_, World.ownsRow_nil _ _ _ _, ?_, by simp [crashRec], by simp [crashRec, openOf]⟩ (fun g ho hnb => hk g (fun e => hnb (.inl e))) hblk hlow (by simp [crashRec]) (by simp [crashRec]) (by simp [crashRec]), rfl, rfl, rfl, by simp [World.setCell], fun g hlt ho => hk g (fun e => ho (.inr (.inr ⟨k, r, hr, .inl e⟩))), St.own_upd (t := s.turn) hr hblk⟩
  · have := setCell_cells (i := 1) (v := .slice none 0 0) (setCell_cells (i := 0) (v := cutV r.dv (keepN f r)) hrec.blk)
    simpa [crashRec] using this
  · exact DRow.keep (w := w) hcut fun g hg => hk g (ha1 g (by rw [← hdb]; exact hg))
  · show (r.data.take _).length ≤ _
    have := hrec.few
    simp; omega
end

theorem pieceCells_one_cell (l : List (Int × Int)) : ∀ u ∈ pieceCells l, u.oneCell' = true := fun u hu => by
  unfold pieceCells at hu
  rw [List.mem_flatMap] at hu
  obtain ⟨x, _, hx⟩ := hu
  simp at hx
  rcases hx with rfl | rfl <;> rfl

theorem append_pieces {w : World} {base : Nat} {v : Value} {l nl : List (Int × Int)} (h : w.ownsRow base 57 2 v l.length (pieceCells l)) (A : Option Addr) (c : Nat) (ty : TypeId) (hA : w.ownsRow 0 57 2 (.slice A nl.length c) nl.length (pieceCells nl)) (hb : l.length + nl.length ≤ 100000000) (hbase : base ≤ w.heap.size) :
    ∃ v' w', (Builtin.append_ #[53, 53] ty #[v, .slice A nl.length c]).run Tryd.prog w = .ok v' w' ∧ w'.ownsRow base 57 2 v' (l ++ nl).length (pieceCells (l ++ nl)) ∧ w.grownBy w' v.ownBlock := by
  obtain ⟨i, hi, hz0, hz1, hz2⟩ := info_parts piece_info
  have ht := Tryd.underlying53
  rw [List.length_append, pieceCells_append]
  rcases hA.2 with ⟨hv, hn⟩ | ⟨g, cap, cur, hv, hbg, hh, h3, h4, h5, h6⟩
  · injection hv with hv _ hc
    subst hv hc
    have hnl : nl = [] := List.eq_nil_of_length_eq_zero hn
    subst hnl
    refine ⟨v, w, ?_, by simpa [pieceCells] using h, ⟨rfl, rfl, rfl, Nat.le_refl _, fun _ _ _ => rfl⟩⟩
    rcases h.2 with ⟨rfl, _⟩ | ⟨g, cap, cur, rfl, _, hh, h1, _⟩
    · simp [Builtin.append_, run_underlying ht, sizeOf, typeInfo, hi, hz1, Builtin.lenOf, Builtin.firstCells, loadCells, loadCellsFrom]
    · simp [Builtin.append_, run_underlying ht, sizeOf, typeInfo, hi, hz1, Builtin.lenOf, Builtin.firstCells, loadCells, loadCellsFrom, h1, storeCells]
  · injection hv with hv _ hc
    subst hv hc
    have hnews := hA.cells (g := g) rfl
    obtain ⟨v', w', hr, h1, h2, _⟩ := run_append_own (P := Tryd.prog) w base 53 ty 57 i (.agg #[.int .i64 0, .int .i64 0]) 2 16 ht hi hz0 hz1 hz2 rfl (by decide) v l.length (pieceCells l) h ⟨g, 0, none⟩ nl.length c (pieceCells nl) (pieceCells_len nl) hnews (pieceCells_one_cell nl) (Nat.le_trans hb (by decide)) (by omega) hbase
    exact ⟨v', w', hr, h1, h2⟩

theorem wpList_append_pieces (w : World) {ops : Array Oper} {rest : List Oper} {o : Oper} {a : Act} {Q : Exit → Act → World → Prop} (hgd : o.guard = none) (sl x : Operand)
    (ho : o.op = .call { callee := .builtin .append, args := #[sl, x], argTypes := #[53, 53] })
    (base : Nat) (v : Value) (l nl : List (Int × Int)) (A : Option Addr) (n c : Nat) (hs : a.eval sl = v) (hx : a.eval x = .slice A n c) (hn : nl.length = n) (h : w.ownsRow base 57 2 v l.length (pieceCells l)) (hA : w.ownsRow 0 57 2 (.slice A n c) n (pieceCells nl)) (hb : l.length + nl.length ≤ 100000000) (hbase : base ≤ w.heap.size)
    (hK : ∀ v' w', w'.ownsRow base 57 2 v' (l ++ nl).length (pieceCells (l ++ nl)) → w.grownBy w' v.ownBlock → wpList Tryd.prog ops Q rest (a.put o.dst v') w') : wpList Tryd.prog ops Q (o :: rest) a w := by
  subst hn
  obtain ⟨v', w', hr, h2, h3⟩ := append_pieces h A c o.type hA hb hbase
  refine wpList_plain hgd fun K hK' => ?_
  unfold Oper.wp execOp
  simp only [ho, resolve, invoke, builtin, Sem.run_bind, Sem.run_pure, Result.andThen_ok, List.map_toArray, List.map_cons, List.map_nil, hs, hx, hr]
  exact hK' _ _ (hK v' w' h2 h3)
end Go.Proofs.YtfhdcjfkngflbaaDoor
