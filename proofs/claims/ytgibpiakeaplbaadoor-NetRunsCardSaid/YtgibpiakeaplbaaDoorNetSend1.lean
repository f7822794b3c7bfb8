/-
  net: Send's last statement: its parts, in whatever order they come. Own work.
-/
import Derived.Test.YtgibpiakeaplbaaDoorNetSend0
set_option linter.unusedSimpArgs false
set_option linter.unusedVariables false
namespace Go.Proofs.YtgibpiakeaplbaaDoor
open Go Go.RowKit

def BytesAt (w : World) (A : Option Addr) (bs : List UInt8) : Prop := (A = none → bs.length = 0) ∧ ∀ ad, A = some ad → ∀ j u, (byteVs bs)[j]? = some u → w.cell? (ad.add j) = some u

theorem BytesAt.below {w w' : World} {A : Option Addr} {bs : List UInt8} (h : BytesAt w A bs) (hb : Below w.heap.size w w') : BytesAt w' A bs :=
  ⟨h.1, fun ad hA j u hu => by
    have hc := h.2 ad hA j u hu
    exact (World.cell?_of_block (w := w) (hb.block _ (World.block_lt_of_cell? w _ hc))).trans hc⟩

theorem byteVs_one (bs : List UInt8) : ∀ u ∈ byteVs bs, u.oneCell' = true := by
  intro u hu
  obtain ⟨b, _, rfl⟩ := List.mem_map.1 hu
  rfl

theorem cell_at_map {w : World} {a : Addr} {M c : Nat} {es : Array MapEntry} (h : w.heap[M]? = some (.map es c)) (e : a.block = M) : w.cell? a = none := by
  unfold World.cell?
  rw [e, h]

theorem own_slice {w : World} {base : Nat} {e : TypeId} {size n : Nat} {v : Value} {xs : List Value} (h : w.ownsRow base e size v n xs) : ∃ A c, v = .slice A n c := by
  rcases h.2 with ⟨rfl, hn⟩ | ⟨g, cap, cur, rfl, _⟩
  · exact ⟨none, 0, by rw [hn]⟩
  · exact ⟨_, _, rfl⟩

structure SendCtx (base B : Nat) (S : Int × Int → List Pkt) (k : Int × Int) (w2 : World) (M cm : Nat) (L : List (MEnt (Int × Int))) (A0 : Option Addr) (n cap0 K : Nat) (A : Option Addr) (bs : List UInt8) : Prop where
  hin : NetIn base w2 B M cm L S
  hb : base ≤ w2.heap.size
  hv : (lkV k L).getD (.slice none 0 0) = .slice A0 n cap0
  hS : (S k).length = n
  hn : n < 1024
  hway : wayB k = true
  cells : CellsS w2 B M K k
  hKM : K ≠ M
  hKty : ∀ cur, w2.heap[K]? ≠ some (.cells cur 27 (0, 0))
  bytes : BytesAt w2 A bs
  len : bs.length ≤ 1048576

section
variable {base B : Nat} {S : Int × Int → List Pkt} {k : Int × Int} {w2 : World} {M cm : Nat} {L : List (MEnt (Int × Int))} {A0 : Option Addr} {n cap0 K : Nat} {A : Option Addr} {bs : List UInt8}

theorem SendCtx.row (h : SendCtx base B S k w2 M cm L A0 n cap0 K A bs) : w2.ownsRow base 27 1 (.slice A0 n cap0) n ((S k).map (·.1)) := by
  have hr := h.hin.row k
  have hv2 := h.hv
  cases hl : lkV k L with
  | none => rw [hl] at hr hv2; injection hv2 with h1 h2 h3; subst h1 h2 h3; rw [show S k = [] from hr]; exact World.ownsRow_nil _ _ _ _
  | some v => rw [hl] at hr hv2; rw [show v = _ from hv2] at hr; have hr2 := hr.2; rw [h.hS] at hr2; exact hr2

theorem not_cells_of_map {W : World} {M c : Nat} {es : Array MapEntry} (h : W.heap[M]? = some (.map es c)) : ∀ o cur e fr, W.heap[M]? = some o → o ≠ .cells cur e fr := by
  intro o cur e fr h2
  rw [h] at h2; cases h2; intro h3; cases h3

theorem SendCtx.same (h : SendCtx base B S k w2 M cm L A0 n cap0 K A bs) {W : World} (hs : Since w2 W M) : CellsS W B M K k := hs.cells h.cells h.hin.ne h.hKM

/-- Behind the append: the store of the entry, and what then holds. -/
theorem SendCtx.fin (h : SendCtx base B S k w2 M cm L A0 n cap0 K A bs) {W : World} {st : Nat} {v9 : Value} (hmid : Mid base w2 W M cm L k A0 n cap0 ((S k).map (·.1)) v9 bs st) {g cap : Nat} {w4 : World}
    (hown : w4.ownsRow base 27 1 (.slice (some ⟨g, 0, none⟩) (n + 1) cap) (n + 1) ((S k).map (·.1) ++ [v9])) (hgrow : W.grownBy w4 (Value.slice A0 n cap0).ownBlock) (hat : (Value.slice A0 n cap0).ownBlock = some g ∨ g = W.heap.size) :
    ∃ w5, (Instr.entryStore 60 (.map (some M)) (.int .i64 (st : Nat)) (.slice (some ⟨g, 0, none⟩) (n + 1) cap)).run Tryd.prog w4 = .ok () w5 ∧ CellsS w4 B M K k ∧ CellsS w5 B M K k ∧
      Hid (NetAt base w5 B (updS S k (S k ++ [(v9, bs)])) ∧ Below base w2 w5 ∧ PktOK w2.heap.size w5 (v9, bs) ∧ KeepC w2 w5) := by
  have hrow := h.row
  have hC2 := h.cells
  have hne : ∀ b, (Value.slice A0 n cap0).ownBlock = some b → ∃ cur, w2.heap[b]? = some (.cells cur 27 (0, 0)) := fun b hb => by
    obtain ⟨cur, h1, _⟩ := own_block hrow hb
    exact ⟨cur, h1⟩
  obtain ⟨hin, hb, hv, hS, hn, hway, _, hKM, hKty, _, hl9⟩ := h
  subst hS
  obtain ⟨w5, h1, ⟨c', L', h2⟩, h3, h4, h5, h6⟩ := send_fin hin hb hv hmid hn hway hl9 hown hgrow (hat.imp id fun e => by omega)
  have c4 : ∀ b i v, w2.cell? ⟨b, i, none⟩ = some v → b ≠ M → (∀ cur, w2.heap[b]? ≠ some (.cells cur 27 (0, 0))) → w4.cell? ⟨b, i, none⟩ = some v := by
    intro b i v hc hM hty
    have hlt : b < w2.heap.size := World.block_lt_of_cell? w2 _ hc
    have h1 : w4.heap[b]? = W.heap[b]? := hgrow.block b (Nat.lt_of_lt_of_le hlt hmid.since.size) (fun e => by obtain ⟨cur, hh⟩ := hne b e.symm; exact hty cur hh)
    exact (World.cell?_of_block (w := w2) (h1.trans (hmid.since.keep b hlt hM))).trans hc
  have hBty : ∀ cur, w2.heap[B]? ≠ some (.cells cur 27 (0, 0)) := fun cur h => by
    rw [hin.blk] at h; injection h with h; injection h with _ h _; exact absurd h (by decide)
  have hC4 : CellsS w4 B M K k := ⟨c4 _ _ _ hC2.1 hin.ne hBty, c4 _ _ _ hC2.2.1 hKM hKty, c4 _ _ _ hC2.2.2 hKM hKty⟩
  have hkc : KeepC w2 w5 := by
    intro b cur t fr hb ht
    refine (h6 b (Array.getElem?_eq_some_iff.1 hb).1 ?_ ?_).trans hb
    · rintro rfl
      have h7 := hin.map; unfold MapAt at h7; rw [hb] at h7; cases h7
    · intro v hv' e
      have hr := hin.row k
      rw [hv'] at hr
      obtain ⟨cur', hh, _⟩ := own_block hr.2 e
      rw [hb] at hh; injection hh with hh; injection hh with _ hh _; exact ht hh
  exact ⟨w5, h1, hC4, h5.cells hC4 hin.ne hKM, ⟨_, _, _, h2⟩, h3, h4, hkc⟩

/-- Clone, in whatever world that has come of w2. -/
theorem SendCtx.clone (h : SendCtx base B S k w2 M cm L A0 n cap0 K A bs) {W : World} (hW : Since w2 W M) (c : Nat) :
    Calls Tryd.prog 27 #[.slice A bs.length c] W fun e w3 => ∃ A9 c9, e = .returned (.slice A9 bs.length c9) ∧ Hid (Since w2 w3 M) ∧ Hid (w3.heap[M]? = W.heap[M]? ∧ M < w3.heap.size) ∧ CellsS w3 B M K k ∧
      Hid (PktOK w2.heap.size w3 (.slice A9 bs.length c9, bs)) ∧ Hid (w3.ownsRow base 27 1 (.slice A0 n cap0) n ((S k).map (·.1))) ∧ (∀ o, CellsS (w3.alloc o) B M K k) := by
  have hM2 := h.hin.map
  unfold MapAt at hM2
  have hcl := cloneB_any A bs.length c (byteVs bs) W (by simp [byteVs]) (Nat.le_trans h.len (by decide)) (Nat.le_trans (Nat.mul_le_mul_right 1 h.len) (by decide)) h.bytes.1 (fun ad hAd j u hu => by
    have hcell := h.bytes.2 ad hAd j u hu
    have hlt := World.block_lt_of_cell? w2 _ hcell
    refine (World.cell?_of_block (w := w2) (hW.keep _ hlt (fun e => ?_))).trans hcell
    rw [cell_at_map hM2 e] at hcell
    cases hcell) (byteVs_one bs)
  refine hcl.mono ?_
  rintro e w3 ⟨v9, rfl, hown9, hb9, _⟩
  obtain ⟨A9, c9, rfl⟩ := own_slice hown9
  have hs3 : Since W w3 M := Since.below hb9
  have hs23 := hW.trans hs3
  have hMlt : M < W.heap.size := Nat.lt_of_lt_of_le h.hin.ltM hW.size
  exact ⟨A9, c9, rfl, hs23, ⟨hb9.block M hMlt, Nat.lt_of_lt_of_le hMlt hb9.size⟩, h.same hs23, ownsRow_lower hown9 hW.size, hs23.row (not_cells_of_map hM2) h.row, fun o => h.same (hs23.trans (Since.alloc w3 M o))⟩

theorem Mid.alloc {W : World} {v9 : Value} {st : Nat} (h : Mid base w2 W M cm L k A0 n cap0 ((S k).map (·.1)) v9 bs st) (o : Obj) : Mid base w2 (W.alloc o) M cm L k A0 n cap0 ((S k).map (·.1)) v9 bs st :=
  ⟨h.since.trans (Since.alloc _ _ _), h.map.alloc o, h.stamp, h.row.alloc o, ownsRow_below' h.pk ((Below.refl _ _).alloc (Nat.le_refl _) _)⟩

/-- The entry has been made ahead of Clone. -/
theorem SendCtx.midA (h : SendCtx base B S k w2 M cm L A0 n cap0 K A bs) {wm w3 : World} {v9 : Value} {st : Nat} (hm : MapAt pairV wm M (entE k (.slice none 0 0) cm L) (clkE k L cm)) (hst : ∃ e ∈ entE k (.slice none 0 0) cm L, e.k = k ∧ e.b = st)
    (hs3 : Since w2 w3 M) (hM3 : w3.heap[M]? = wm.heap[M]?) (hpk : PktOK w2.heap.size w3 (v9, bs)) (hrow : w3.ownsRow base 27 1 (.slice A0 n cap0) n ((S k).map (·.1))) :
    Mid base w2 w3 M cm L k A0 n cap0 ((S k).map (·.1)) v9 bs st := ⟨hs3, hM3.trans hm, hst, hrow, hpk⟩

/-- .. and behind it, in W: w3 itself, or with the new slice's block. -/
theorem SendCtx.midB (h : SendCtx base B S k w2 M cm L A0 n cap0 K A bs) {W : World} {v9 : Value} (hs : Since w2 W M) (hM : W.heap[M]? = w2.heap[M]?) (hpk : PktOK w2.heap.size W (v9, bs)) (hrow : W.ownsRow base 27 1 (.slice A0 n cap0) n ((S k).map (·.1))) :
    ∃ st W', (Instr.mapEntry 60 (.map (some M)) (.agg #[.int .i64 k.1, .int .i64 k.2])).run Tryd.prog W = .ok (.tuple #[.slice A0 n cap0, .int .i64 (st : Nat)]) W' ∧ CellsS W' B M K k ∧ (∀ o, CellsS (W'.alloc o) B M K k) ∧
      Hid (Mid base w2 W' M cm L k A0 n cap0 ((S k).map (·.1)) v9 bs st) ∧ Hid (Since W W' M ∧ W'.heap.size = W.heap.size) := by
  have hmW : MapAt pairV W M L cm := hM.trans h.hin.map
  obtain ⟨st, W', h1, h2, h3, h4, h5⟩ := entry_step hmW h.hin.wf k h.hv
  have hs' := hs.trans h3
  unfold MapAt at hmW
  exact ⟨st, W', h1, h.same hs', fun o => h.same (hs'.trans (Since.alloc _ _ _)), ⟨hs', h2, h5, h3.row (not_cells_of_map hmW) hrow, h3.row (not_cells_of_map hmW) hpk⟩, h3, h4⟩

theorem newcell (w : World) (v : Value) (t : TypeId) (b : Nat) (hb : b = w.heap.size) : ∀ j u, [v][j]? = some u → (w.alloc (.cells #[v] t)).cell? ((⟨b, 0, none⟩ : Addr).add j) = some u := by
  subst hb
  exact World.news_of_block (cs := #[v]) (t := t) (fr := (0, 0)) (heap_alloc_new w _)
theorem newcell_later {w3 W' : World} {M : Nat} (v : Value) (t : TypeId) (h : Since (w3.alloc (.cells #[v] t)) W' M) (hM : M < w3.heap.size) : ∀ j u, [v][j]? = some u → W'.cell? ((⟨w3.heap.size, 0, none⟩ : Addr).add j) = some u :=
  World.news_of_block (cs := #[v]) (t := t) (fr := (0, 0)) ((h.keep _ (by simp) (by omega)).trans (heap_alloc_new w3 _))
end
end Go.Proofs.YtgibpiakeaplbaaDoor
