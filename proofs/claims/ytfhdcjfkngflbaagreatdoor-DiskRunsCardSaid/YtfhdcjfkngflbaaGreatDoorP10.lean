/-
  disk: the reference's Twin; stores into a row of bytes. Own work (after XNetHelp, XNetTouch).
  disk: the document's Append: what a round does to memory. Own work.
-/
import Derived.Test.YtfhdcjfkngflbaaGreatDoorP6
import Derived.Test.YtfhdcjfkngflbaaGreatDoorP9
set_option linter.unusedSimpArgs false
set_option linter.unusedVariables false
namespace Go.Proofs.YtfhdcjfkngflbaaGreatDoor
open Go Go.RowKit

theorem twin_none (c : Nat) (w : World) : Calls Tryz.prog 17 #[.slice none 0 c] w fun e w' => ∃ v, e = .returned v ∧ w'.ownsRow w.heap.size 5 1 v 0 (byteVs []) ∧ Below w.heap.size w w' := by
  go_enter Tryz.func17, Tryz.ntmps17
  go_wp2
  go_ret
  exact ⟨_, rfl, World.ownsRow_made w #[] 0 (Nat.le_refl _) (by simp) (by simp), (Below.refl _ _).alloc (Nat.le_refl _) _⟩

theorem twin_any (A : Option Addr) (bs : List UInt8) (c : Nat) (w : World) (h : BytesAt w A bs) (hlen : bs.length ≤ 2000000) :
    Calls Tryz.prog 17 #[.slice A bs.length c] w fun e w' => ∃ v, e = .returned v ∧ w'.ownsRow w.heap.size 5 1 v bs.length (byteVs bs) ∧ Below w.heap.size w w' := by
  cases A with
  | none =>
    have h0 := h.1 rfl
    have h1 := List.eq_nil_of_length_eq_zero h0
    subst h1
    exact twin_none c w
  | some ad =>
    obtain ⟨i0, hi, hz0, hz1, hz2⟩ := info_parts byte_info
    have hown0 : (w.alloc (.cells #[] 5)).ownsRow w.heap.size 5 1 (.slice (some ⟨w.heap.size, 0, none⟩) 0 0) 0 [] := World.ownsRow_made w #[] 0 (Nat.le_refl _) (by simp) (by simp)
    have hx2 : Hid (∀ j u, (byteVs bs)[j]? = some u → (w.alloc (.cells #[] 5)).cell? (ad.add j) = some u) := fun j u hu => by
      have := h.2 ad rfl j u hu
      rw [World.cell?_alloc_lt _ _ _ (World.block_lt_of_cell? w _ this)]; exact this
    have h1' : Hid (∀ u ∈ byteVs bs, u.oneCell' = true) := byteVs_one bs
    have hl' : Hid ((byteVs bs).length = bs.length * 1) := by simp [Hid, byteVs]
    have hn' : Hid (0 + bs.length ≤ maxLen) := Nat.le_trans (show 0 + bs.length ≤ 2000000 by omega) (by decide)
    have hb' : Hid ((0 + bs.length) * 1 ≤ 140737488355328) := Nat.le_trans (Nat.mul_le_mul_right 1 (show 0 + bs.length ≤ 2000000 by omega)) (by decide)
    have hs' : Hid (w.heap.size ≤ (w.alloc (.cells #[] 5)).heap.size) := by simp [Hid]
    clear h hlen
    go_enter Tryz.func17, Tryz.ntmps17
    go_wp2_with (at_builtin; refine wpList_append_own _ rfl _ _ 30 rfl w.heap.size 5 i0 (.int .u8 0) 1 1 Tryz.underlying30 hi hz0 hz1 hz2 rfl (by decide) _ 0 [] rfl hown0 ad bs.length c (byteVs bs) rfl hl'.out hx2.out h1'.out hn'.out hb'.out hs'.out ?_; intro v' w1 hown1 hgrow hnil)
    have hg : (w.alloc (.cells #[] 5)).grownBy w1 (some w.heap.size) := hgrow
    clear hgrow hnil
    have hfin : Hid (w1.ownsRow w.heap.size 5 1 v' bs.length (byteVs bs) ∧ Below w.heap.size w w1) :=
      ⟨by simpa using hown1, ((Below.refl _ _).alloc (Nat.le_refl _) _).grown hg (by simp) (fun k h => by cases h; exact Nat.le_refl _)⟩
    clear hg hown1 hown0
    go_ret
    exact ⟨v', rfl, hfin.out.1, hfin.out.2⟩

/-- Only block o has turned; none is new. -/
structure Touch (o : Option Nat) (w w' : World) : Prop where
  os : w'.os = w.os
  tape : w'.tape = w.tape
  output : w'.output = w.output
  size : w'.heap.size = w.heap.size
  block : ∀ k, o ≠ some k → w'.heap[k]? = w.heap[k]?
theorem Touch.refl (o : Option Nat) (w : World) : Touch o w w := ⟨rfl, rfl, rfl, rfl, fun _ _ => rfl⟩
theorem Touch.trans {o : Option Nat} {a b c : World} (h : Touch o a b) (k : Touch o b c) : Touch o a c :=
  ⟨k.os.trans h.os, k.tape.trans h.tape, k.output.trans h.output, k.size.trans h.size, fun i hi => (k.block i hi).trans (h.block i hi)⟩
theorem Touch.set (w : World) (g i : Nat) (v : Value) : Touch (some g) w (w.setCell ⟨g, i, none⟩ v) :=
  ⟨rfl, rfl, rfl, by simp [World.setCell], fun k hk => Below.heap_setCell w ⟨g, i, none⟩ v k (fun e => hk (by rw [e]))⟩
theorem Touch.below {o : Option Nat} {w w' : World} {base : Nat} (h : Touch o w w') (hg : ∀ g, o = some g → base ≤ g) : Below base w w' :=
  ⟨h.os, h.tape, h.output, by rw [h.size]; exact Nat.le_refl _, fun k hk => h.block k (fun e => by have := hg k e; omega)⟩
theorem Touch.row {o : Option Nat} {w w' : World} {base : Nat} {e : TypeId} {size n : Nat} {v : Value} {xs : List Value} (h : Touch o w w') (hr : w.ownsRow base e size v n xs) (hv : ∀ g, v.ownBlock = some g → o ≠ some g) : w'.ownsRow base e size v n xs :=
  ownsRow_keep hr fun k hk => h.block k (hv k hk)

theorem Dk.touch {base B n : Nat} {w w' : World} {v : Vw} {t : Int} {s : St} {o : Option Nat} (h : Dk base w B v t n s) (hc : ∀ g, s.own g → o ≠ some g) (ht : Touch o w w') : Dk base w' B v t n s :=
  ⟨h.at_.keep fun g hg => ht.block g (hc g hg), h.B, h.view, h.turn, h.len, by rw [ht.size]; exact h.low⟩
theorem Dk.grown {base B n : Nat} {w w' : World} {v : Vw} {t : Int} {s : St} {o : Option Nat} (h : Dk base w B v t n s) (hc : ∀ g, s.own g → some g ≠ o) (ht : w.grownBy w' o) : Dk base w' B v t n s :=
  ⟨h.at_.keep fun g hg => ht.block g (h.at_.lt hg) (hc g hg), h.B, h.view, h.turn, h.len, Nat.le_trans h.low ht.size⟩
/-- A row of numbers of one byte each. -/
def Nums (base : Nat) (w : World) (v : Value) (n : Nat) : Prop := ∃ xs : List Int, w.ownsRow base 5 1 v n (xs.map (.int .u8))

theorem nums_of {base n : Nat} {w : World} {v : Value} {bs : List UInt8} (h : w.ownsRow base 5 1 v n (byteVs bs)) : Nums base w v n := ⟨bs.map fun b => (b.toNat : Int), by
  have e : (bs.map fun b => (b.toNat : Int)).map (.int .u8) = byteVs bs := by simp [byteVs, byteV]
  rw [e]; exact h⟩
theorem Nums.cell {base : Nat} {w : World} {A : Option Addr} {n c : Nat} (h : Nums base w (.slice A n c) n) {j : Nat} (hj : j < n) : ∃ g x, A = some ⟨g, 0, none⟩ ∧ base ≤ g ∧ w.cell? ⟨g, j, none⟩ = some (.int .u8 x) ∧ w.frozen? ⟨g, j, none⟩ = false ∧ (∃ cur, w.heap[g]? = some (.cells cur 5 (0, 0))) ∧
    ∀ y : Int, Nums base (w.setCell ⟨g, j, none⟩ (.int .u8 y)) (.slice A n c) n := by
  obtain ⟨xs, hr⟩ := h
  have hlen : xs.length = n := by have := hr.1; simpa using this
  rcases hr.2 with ⟨hv, hn⟩ | ⟨g, cap, cur, hv, hg, hh, h3, h4, h5, h6⟩
  · omega
  · injection hv with hA _ hc
    subst hA hc
    have hx : xs[j]? = some xs[j] := List.getElem?_eq_getElem (by omega)
    have hcur : cur[j]? = some (.int .u8 xs[j]) := by
      have e : (cur.toList.take (n * 1))[j]? = some (.int .u8 xs[j]) := by rw [h6, List.getElem?_map, hx]; rfl
      rw [List.getElem?_take, if_pos (by omega)] at e
      simpa using e
    refine ⟨g, xs[j], rfl, hg, by simp [World.cell?, hh, hcur], by simp [World.frozen?, hh], ⟨cur, hh⟩, fun y => ⟨xs.set j y, by simp [hlen], .inr ⟨g, c, cur.setIfInBounds j (.int .u8 y), rfl, hg, ?_, h3, h4, by simpa using h5, ?_⟩⟩⟩
    · show (w.heap.modify g _)[g]? = _
      rw [Array.getElem?_modify, if_pos rfl, hh]; rfl
    · rw [List.map_set, ← h6]
      simp [List.take_set]
end Go.Proofs.YtfhdcjfkngflbaaGreatDoor
set_option linter.unusedSimpArgs false
set_option linter.unusedVariables false
namespace Go.Proofs.YtfhdcjfkngflbaaGreatDoor
open Go Go.RowKit

theorem newc1 (w : World) (a : Value) (t : TypeId) (B : Nat) (hB : B = w.heap.size) : ∀ j u, [a][j]? = some u → (w.alloc (.cells #[a] t)).cell? ((⟨B, 0, none⟩ : Addr).add j) = some u := by
  subst hB
  exact World.news_of_block (cs := #[a]) (t := t) (fr := (0, 0)) (heap_alloc_new w _)
theorem rows_apart {w : World} {b b' s s' n n' : Nat} {e e' : TypeId} {v v' : Value} {xs xs' : List Value} (h : w.ownsRow b e s v n xs) (h' : w.ownsRow b' e' s' v' n' xs') (hne : e ≠ e') : ∀ k, v.ownBlock = some k → v'.ownBlock ≠ some k := fun k h1 h2 => by
  obtain ⟨c1, e1, _⟩ := own_block h h1
  obtain ⟨c2, e2, _⟩ := own_block h' h2
  rw [e1] at e2
  injection e2 with e2
  injection e2 with _ e2 _
  exact hne e2
/-- The boxes of Append: the disk, the two results, the file. -/
structure ABx (w0 W : World) (b0 b1 b2 F : Nat) (v0 : Value) (l : Int) (nm : ByteArray) (dv tv : Value) : Prop where
  d : W.heap[b0]? = some (.cells #[v0, .int .i64 l] 29 (0, 0))
  r : W.heap[b1]? = some (.cells #[.slice none 0 0, .int .i64 0] 29 (0, 0))
  e : W.heap[b2]? = some (.cells #[.bool false, .slice none 0 0, .int .i64 0] 53 (0, 0))
  f : W.heap[F]? = some (.cells #[.string nm, dv, tv] 66 (0, 0))
  n : w0.heap.size ≤ b0 ∧ b0 < b1 ∧ b1 < b2 ∧ b2 < F
  old : Below w0.heap.size w0 W
section
variable {w0 W W' : World} {b0 b1 b2 F : Nat} {v0 : Value} {l : Int} {nm : ByteArray} {dv tv : Value}
theorem ABx.keep (h : ABx w0 W b0 b1 b2 F v0 l nm dv tv) {base : Nat} (hb : Below base W W') (hl : F < base) : ABx w0 W' b0 b1 b2 F v0 l nm dv tv := by
  have hn := h.n
  exact ⟨(hb.block _ (by omega)).trans h.d, (hb.block _ (by omega)).trans h.r, (hb.block _ (by omega)).trans h.e, (hb.block _ (by omega)).trans h.f, h.n, h.old.trans (hb.mono (by omega))⟩
theorem ABx.setL (h : ABx w0 W b0 b1 b2 F v0 l nm dv tv) (l' : Int) : ABx w0 (W.setCell ⟨b0, 1, none⟩ (.int .i64 l')) b0 b1 b2 F v0 l' nm dv tv := by
  have hn := h.n
  refine ⟨?_, (Below.heap_setCell _ _ _ _ (by show b1 ≠ b0; omega)).trans h.r, (Below.heap_setCell _ _ _ _ (by show b2 ≠ b0; omega)).trans h.e, (Below.heap_setCell _ _ _ _ (by show F ≠ b0; omega)).trans h.f, h.n, belowS h.old (by omega) _⟩
  show (W.heap.modify b0 _)[b0]? = _
  rw [Array.getElem?_modify, if_pos rfl, h.d]; rfl
theorem ABx.setD (h : ABx w0 W b0 b1 b2 F v0 l nm dv tv) (dv' : Value) : ABx w0 (W.setCell ⟨F, 1, none⟩ dv') b0 b1 b2 F v0 l nm dv' tv := by
  have hn := h.n
  refine ⟨(Below.heap_setCell _ _ _ _ (by show b0 ≠ F; omega)).trans h.d, (Below.heap_setCell _ _ _ _ (by show b1 ≠ F; omega)).trans h.r, (Below.heap_setCell _ _ _ _ (by show b2 ≠ F; omega)).trans h.e, ?_, h.n, belowS h.old (by omega) _⟩
  show (W.heap.modify F _)[F]? = _
  rw [Array.getElem?_modify, if_pos rfl, h.f]; rfl
theorem ABx.setT (h : ABx w0 W b0 b1 b2 F v0 l nm dv tv) (tv' : Value) : ABx w0 (W.setCell ⟨F, 2, none⟩ tv') b0 b1 b2 F v0 l nm dv tv' := by
  have hn := h.n
  refine ⟨(Below.heap_setCell _ _ _ _ (by show b0 ≠ F; omega)).trans h.d, (Below.heap_setCell _ _ _ _ (by show b1 ≠ F; omega)).trans h.r, (Below.heap_setCell _ _ _ _ (by show b2 ≠ F; omega)).trans h.e, ?_, h.n, belowS h.old (by omega) _⟩
  show (W.heap.modify F _)[F]? = _
  rw [Array.getElem?_modify, if_pos rfl, h.f]; rfl
end
/-- The file of Append as it grows. -/
structure AIn (w0 W : World) (b0 b1 b2 F base : Nat) (v0 : Value) (l : Int) (nm : ByteArray) (D : Nat) (dv tv : Value) (data : List UInt8) (turns : List Int) : Prop where
  bx : ABx w0 W b0 b1 b2 F v0 l nm dv tv
  dr : W.ownsRow base 5 1 dv D (byteVs data)
  tr : W.ownsRow base 3 1 tv D (intVs turns)
  lo : F < base ∧ base ≤ W.heap.size
section
variable {w0 W W' : World} {b0 b1 b2 F base D : Nat} {v0 : Value} {l : Int} {nm : ByteArray} {dv tv : Value} {data : List UInt8} {turns : List Int}
theorem ty_ne : 5 ≠ 3 := by decide
theorem AIn.row1 (h : AIn w0 W b0 b1 b2 F base v0 l nm D dv tv data turns) (l' : Int) (o : Obj) : ((W.setCell ⟨b0, 1, none⟩ (.int .i64 l')).alloc o).ownsRow base 5 1 dv D (byteVs data) ∧ base ≤ ((W.setCell ⟨b0, 1, none⟩ (.int .i64 l')).alloc o).heap.size := by
  have hn := h.bx.n
  have hl := h.lo
  have hs : (W.setCell ⟨b0, 1, none⟩ (.int .i64 l')).heap.size = W.heap.size := by simp [World.setCell]
  refine ⟨ownsRow_keep h.dr fun k hk => ?_, by simp [hs]; omega⟩
  obtain ⟨_, _, h1, h2⟩ := own_block h.dr hk
  rw [Below.heap_alloc _ _ _ (by rw [hs]; exact h2), Below.heap_setCell _ _ _ _ (by show k ≠ b0; omega)]
theorem AIn.after1 (h : AIn w0 W b0 b1 b2 F base v0 l nm D dv tv data turns) (l' : Int) (o : Obj) (w5 : World) (hg : ((W.setCell ⟨b0, 1, none⟩ (.int .i64 l')).alloc o).grownBy w5 dv.ownBlock) : ABx w0 w5 b0 b1 b2 F v0 l' nm dv tv ∧ w5.ownsRow base 3 1 tv D (intVs turns) ∧ base ≤ w5.heap.size := by
  have hn := h.bx.n
  have hl := h.lo
  have hs : (W.setCell ⟨b0, 1, none⟩ (.int .i64 l')).heap.size = W.heap.size := by simp [World.setCell]
  obtain ⟨r1, r2⟩ := h.row1 l' o
  have hb : Below base (W.setCell ⟨b0, 1, none⟩ (.int .i64 l')) w5 := ((Below.refl _ _).alloc (by rw [hs]; exact hl.2) o).grown hg r2 fun k hk => (own_block r1 hk).choose_spec.2.1
  have hsz := hg.size
  refine ⟨(h.bx.setL l').keep hb hl.1, ownsRow_keep h.tr fun k hk => ?_, by omega⟩
  obtain ⟨_, _, h1, h2⟩ := own_block h.tr hk
  rw [hg.block k (by simp [hs]; omega) (fun e => rows_apart h.dr h.tr ty_ne k e.symm hk), Below.heap_alloc _ _ _ (by rw [hs]; exact h2), Below.heap_setCell _ _ _ _ (by show k ≠ b0; omega)]
theorem row2 (hbx : ABx w0 W b0 b1 b2 F v0 l nm dv tv) (htr : W.ownsRow base 3 1 tv D (intVs turns)) (hl : F < base ∧ base ≤ W.heap.size) (dv' : Value) (o : Obj) : ((W.setCell ⟨F, 1, none⟩ dv').alloc o).ownsRow base 3 1 tv D (intVs turns) ∧ base ≤ ((W.setCell ⟨F, 1, none⟩ dv').alloc o).heap.size := by
  have hn := hbx.n
  have hs : (W.setCell ⟨F, 1, none⟩ dv').heap.size = W.heap.size := by simp [World.setCell]
  refine ⟨ownsRow_keep htr fun k hk => ?_, by simp [hs]; omega⟩
  obtain ⟨_, _, h1, h2⟩ := own_block htr hk
  rw [Below.heap_alloc _ _ _ (by rw [hs]; exact h2), Below.heap_setCell _ _ _ _ (by show k ≠ F; omega)]
theorem after2 {D' : Nat} {data' : List UInt8} {turns' : List Int} (hbx : ABx w0 W b0 b1 b2 F v0 l nm dv tv) (htr : W.ownsRow base 3 1 tv D (intVs turns)) (hl : F < base ∧ base ≤ W.heap.size) (dv' : Value) (hdr : W.ownsRow base 5 1 dv' D' (byteVs data')) (o : Obj) (w6 : World) (hg : ((W.setCell ⟨F, 1, none⟩ dv').alloc o).grownBy w6 tv.ownBlock)
    (tv' : Value) (htr' : w6.ownsRow base 3 1 tv' D' (intVs turns')) : ABx w0 w6 b0 b1 b2 F v0 l nm dv' tv ∧ AIn w0 (w6.setCell ⟨F, 2, none⟩ tv') b0 b1 b2 F base v0 l nm D' dv' tv' data' turns' := by
  have hn := hbx.n
  have hs : (W.setCell ⟨F, 1, none⟩ dv').heap.size = W.heap.size := by simp [World.setCell]
  obtain ⟨r1, r2⟩ := row2 hbx htr hl dv' o
  have hb : Below base (W.setCell ⟨F, 1, none⟩ dv') w6 := ((Below.refl _ _).alloc (by rw [hs]; exact hl.2) o).grown hg r2 fun k hk => (own_block r1 hk).choose_spec.2.1
  have hsz := hg.size
  have h6 := (hbx.setD dv').keep hb hl.1
  refine ⟨h6, h6.setT tv', ownsRow_keep hdr fun k hk => ?_, ownsRow_keep htr' fun k hk => Below.heap_setCell _ _ _ _ (by have := (own_block htr' hk).choose_spec.2.1; show k ≠ F; omega), hl.1, by simp [World.setCell]; omega⟩
  obtain ⟨_, _, h1, h2⟩ := own_block hdr hk
  rw [Below.heap_setCell _ _ _ _ (by show k ≠ F; omega), hg.block k (by simp [hs]; omega) (fun e => rows_apart hdr htr ty_ne k hk e.symm), Below.heap_alloc _ _ _ (by rw [hs]; exact h2), Below.heap_setCell _ _ _ _ (by show k ≠ F; omega)]
end
theorem byteVs_snoc (l : List UInt8) (b : UInt8) : byteVs (l ++ [b]) = byteVs l ++ [.int .u8 b.toNat] := by simp [byteVs, byteV]
theorem intVs_snoc (l : List Int) (b : Int) : intVs (l ++ [b]) = intVs l ++ [.int .i64 b] := by simp [intVs]
theorem intVs_one (l : List Int) : ∀ u ∈ intVs l, u.oneCell' = true := fun u hu => by
  simp only [intVs, List.mem_map] at hu
  obtain ⟨x, _, rfl⟩ := hu
  rfl
end Go.Proofs.YtfhdcjfkngflbaaGreatDoor
