/-
  net: Send's last statement: what holds between its steps. Own work.
-/
import Derived.Test.YtgibpiakeaplbaaDoorNetPlace
set_option linter.unusedSimpArgs false
set_option linter.unusedVariables false
namespace Go.Proofs.YtgibpiakeaplbaaDoor
open Go Go.RowKit
open Go.ChangeMaps (setBlock)

theorem rowT_info : (Tryd.prog.info? 27).map (fun i => (i.zero, i.size, i.bytes)) = some (some (.slice none 0 0), 1, 24) := by kernel_rfl

/-- The three cells that Send's last statement loads. -/
def CellsS (w' : World) (B M K : Nat) (k : Int × Int) : Prop := w'.cell? ⟨B, 0, none⟩ = some (.map (some M)) ∧ w'.cell? ⟨K, 0, none⟩ = some (.int .i64 k.1) ∧ w'.cell? ⟨K, 1, none⟩ = some (.int .i64 k.2)

/-- W is w but for the map M and new blocks. -/
structure Since (w W : World) (M : Nat) : Prop where
  os : W.os = w.os
  tape : W.tape = w.tape
  output : W.output = w.output
  size : w.heap.size ≤ W.heap.size
  keep : ∀ g, g < w.heap.size → g ≠ M → W.heap[g]? = w.heap[g]?

theorem Since.refl (w : World) (M : Nat) : Since w w M := ⟨rfl, rfl, rfl, Nat.le_refl _, fun _ _ _ => rfl⟩
theorem Since.trans {a b c : World} {M : Nat} (h : Since a b M) (k : Since b c M) : Since a c M :=
  ⟨k.os.trans h.os, k.tape.trans h.tape, k.output.trans h.output, Nat.le_trans h.size k.size, fun g hg hn => (k.keep g (Nat.lt_of_lt_of_le hg h.size) hn).trans (h.keep g hg hn)⟩
theorem Since.below {w W : World} {M : Nat} (h : Below w.heap.size w W) : Since w W M := ⟨h.os, h.tape, h.output, h.size, fun g hg _ => h.block g hg⟩
theorem Since.set {w : World} {M : Nat} (o : Obj) : Since w (setBlock w M o) M := ⟨rfl, rfl, rfl, by simp [setBlock], fun g _ hn => setBlock_other o hn⟩
theorem Since.alloc (w : World) (M : Nat) (o : Obj) : Since w (w.alloc o) M := Since.below ((Below.refl _ _).alloc (Nat.le_refl _) _)
theorem Since.drew (w : World) (M : Nat) : Since w w.drew M := ⟨rfl, rfl, rfl, Nat.le_refl _, fun _ _ _ => rfl⟩

theorem Since.cells {w W : World} {B M K : Nat} {k : Int × Int} (h : Since w W M) (hc : CellsS w B M K k) (hB : B ≠ M) (hK : K ≠ M) : CellsS W B M K k := by
  have lt : ∀ {b i : Nat} {v : Value}, w.cell? ⟨b, i, none⟩ = some v → b < w.heap.size := fun h => World.block_lt_of_cell? w _ h
  have c : ∀ {b i : Nat} {v : Value}, b ≠ M → w.cell? ⟨b, i, none⟩ = some v → W.cell? ⟨b, i, none⟩ = some v := fun hn h1 => (World.cell?_of_block (w := w) (h.keep _ (lt h1) hn)).trans h1
  exact ⟨c hB hc.1, c hK hc.2.1, c hK hc.2.2⟩

theorem Since.row {w W : World} {M base : Nat} {e : TypeId} {size n : Nat} {v : Value} {xs : List Value} (h : Since w W M) (hm : ∀ o cur e fr, w.heap[M]? = some o → o ≠ .cells cur e fr) (hr : w.ownsRow base e size v n xs) : W.ownsRow base e size v n xs :=
  ownsRow_keep hr fun g cur _ hg => h.keep g (Array.getElem?_eq_some_iff.1 hg).1 (fun e' => hm _ cur e (0, 0) (e' ▸ hg) rfl)

/-- Between the entry and its store. -/
structure Mid (base : Nat) (w W : World) (M c : Nat) (L : List (MEnt (Int × Int))) (k : Int × Int) (A0 : Option Addr) (n cap0 : Nat) (vs : List Value) (v9 : Value) (bs : List UInt8) (st : Nat) : Prop where
  since : Since w W M
  map : MapAt pairV W M (entE k (.slice none 0 0) c L) (clkE k L c)
  stamp : ∃ e ∈ entE k (.slice none 0 0) c L, e.k = k ∧ e.b = st
  row : W.ownsRow base 27 1 (.slice A0 n cap0) n vs
  pk : PktOK w.heap.size W (v9, bs)

section
variable {base : Nat} {w W : World} {B M c : Nat} {L : List (MEnt (Int × Int))} {S : Int × Int → List Pkt}

/-- 'mapEntry' in a world that still holds the map. -/
theorem entry_step (hW : MapAt pairV W M L c) (hwf : MWf L c) (k : Int × Int) {v0 : Value} (hv : (lkV k L).getD (.slice none 0 0) = v0) :
    ∃ st W', (Instr.mapEntry 60 (.map (some M)) (.agg #[.int .i64 k.1, .int .i64 k.2])).run Tryd.prog W = .ok (.tuple #[v0, .int .i64 (st : Nat)]) W' ∧
      MapAt pairV W' M (entE k (.slice none 0 0) c L) (clkE k L c) ∧ Since W W' M ∧ W'.heap.size = W.heap.size ∧ ∃ e ∈ entE k (.slice none 0 0) c L, e.k = k ∧ e.b = st := by
  obtain ⟨st, hrun, hst⟩ := run_mapEntry_at way_keys Tryd.underlying60 rows_zero hW hwf k
  rw [hv] at hrun
  exact ⟨st, _, hrun, mapAt_setBlock hW.lt, Since.set _, by simp [setBlock], hst⟩

theorem send_fin (hin : NetIn base w B M c L S) (hbase : base ≤ w.heap.size) {k : Int × Int} {A0 : Option Addr} {cap0 : Nat} {v9 : Value} {bs : List UInt8} {st : Nat} (hv : (lkV k L).getD (.slice none 0 0) = .slice A0 (S k).length cap0)
    (hmid : Mid base w W M c L k A0 (S k).length cap0 ((S k).map (·.1)) v9 bs st) (hlen : (S k).length < 1024) (hway : wayB k = true) (hl9 : bs.length ≤ 1048576) {w4 : World} {g cap : Nat}
    (hown : w4.ownsRow base 27 1 (.slice (some ⟨g, 0, none⟩) ((S k).length + 1) cap) ((S k).length + 1) ((S k).map (·.1) ++ [v9])) (hgrow : W.grownBy w4 (Value.slice A0 (S k).length cap0).ownBlock)
    (hat : (Value.slice A0 (S k).length cap0).ownBlock = some g ∨ W.heap.size ≤ g) :
    ∃ w5, (Instr.entryStore 60 (.map (some M)) (.int .i64 (st : Nat)) (.slice (some ⟨g, 0, none⟩) ((S k).length + 1) cap)).run Tryd.prog w4 = .ok () w5 ∧
      (∃ c' L', NetIn base w5 B M c' L' (updS S k (S k ++ [(v9, bs)]))) ∧ Below base w w5 ∧ PktOK w.heap.size w5 (v9, bs) ∧ Since w4 w5 M ∧
      ∀ b, b < w.heap.size → b ≠ M → (∀ v, lkV k L = some v → v.ownBlock ≠ some b) → w5.heap[b]? = w.heap[b]? := by
  obtain ⟨hs, hm, ⟨e, he, hek, heb⟩, hrow, hpk⟩ := hmid
  subst hek heb
  have hwf' := entE_wf (k := e.k) (z := .slice none 0 0) hin.wf
  have hMrow : ∀ o cur e fr, W.heap[M]? = some o → o ≠ .cells cur e fr := by
    intro o cur e' fr h1
    unfold MapAt at hm
    rw [hm] at h1
    cases h1
    intro h2; cases h2
  have hMne : (Value.slice A0 (S e.k).length cap0).ownBlock ≠ some M := by
    intro e2
    obtain ⟨cur, hh, _⟩ := own_block hrow e2
    exact hMrow _ cur _ _ hh rfl
  have hm4 : MapAt pairV w4 M (entE e.k (.slice none 0 0) c L) (clkE e.k L c) := (hgrow.block M hm.lt (fun e2 => hMne e2.symm)).trans hm
  have hrun := run_entryStore_at (P := Tryd.prog) (T := 60) hm4 hwf' he (.slice (some ⟨g, 0, none⟩) ((S e.k).length + 1) cap)
  obtain ⟨w5, hw5⟩ : ∃ w5, w5 = setBlock w4 M (.map ((putE e.k (.slice (some ⟨g, 0, none⟩) ((S e.k).length + 1) cap) 0 (entE e.k (.slice none 0 0) c L)).map (MEnt.ent pairV)).toArray (clkE e.k L c)) := ⟨_, rfl⟩
  rw [← hw5] at hrun
  have hs45 : Since w4 w5 M := hw5 ▸ Since.set _
  have hm5 : MapAt pairV w5 M (putE e.k (.slice (some ⟨g, 0, none⟩) ((S e.k).length + 1) cap) c L) (clkE e.k L c) := by
    have := mapAt_setBlock (kv := pairV) (L' := putE e.k (.slice (some ⟨g, 0, none⟩) ((S e.k).length + 1) cap) 0 (entE e.k (.slice none 0 0) c L)) (c' := clkE e.k L c) hm4.lt
    rw [entE_put] at this
    rw [hw5, entE_put]
    exact this
  have hM4 : ∀ o cur e fr, w4.heap[M]? = some o → o ≠ .cells cur e fr := by
    intro o cur e' fr h1
    have h2 := hm4
    unfold MapAt at h2
    rw [h2] at h1
    cases h1
    intro h2; cases h2
  -- the old row's block, if it is there, is the way's own
  have hown0 : ∀ b, (Value.slice A0 (S e.k).length cap0).ownBlock = some b → ∃ v, lkV e.k L = some v ∧ v.ownBlock = some b := by
    intro b hb
    cases hl : lkV e.k L with
    | none => rw [hl] at hv; rw [← hv] at hb; simp [Value.ownBlock] at hb
    | some v => rw [hl] at hv; exact ⟨v, rfl, by rw [show v = _ from hv]; exact hb⟩
  have hkeep : ∀ b, b < w.heap.size → b ≠ M → (∀ v, lkV e.k L = some v → v.ownBlock ≠ some b) → w5.heap[b]? = w.heap[b]? := by
    intro b hb hM hnv
    have hbW := Nat.lt_of_lt_of_le hb hs.size
    have h4 : w4.heap[b]? = W.heap[b]? := hgrow.block b hbW (fun e2 => by
      obtain ⟨v, h1, h2⟩ := hown0 b e2.symm
      exact hnv v h1 h2)
    exact (hs45.keep b (Nat.lt_of_lt_of_le hbW hgrow.size) hM).trans (h4.trans (hs.keep b hb hM))
  have hpk5 : PktOK w.heap.size w5 (v9, bs) := by
    refine hs45.row hM4 (ownsRow_keep hpk fun b cur _ hb => ?_)
    refine hgrow.block b (Array.getElem?_eq_some_iff.1 hb).1 (fun e2 => ?_)
    obtain ⟨cur', hh, _⟩ := own_block hrow e2.symm
    rw [hb] at hh
    injection hh with hh
    injection hh with _ hh _
    exact absurd hh (by decide)
  refine ⟨w5, hrun, ⟨_, _, net_upd hin e.k _ (some (.slice (some ⟨g, 0, none⟩) ((S e.k).length + 1) cap)) _ _ (fun b o ho hM hnv => (hkeep b (Array.getElem?_eq_some_iff.1 ho).1 hM hnv).trans ho) hm5 hin.wf.put (fun k' => lkV_put) ⟨by simp, ?_⟩ ?_ ?_ (by simp; omega) (fun _ => hway) (fun p hp => by
    rcases List.mem_append.1 hp with hp | hp
    · exact hin.lens e.k p hp
    · obtain rfl : p = (v9, bs) := by simpa using hp
      exact hl9)⟩, ?_, hpk5, hs45, hkeep⟩
  · have := hs45.row hM4 hown
    simpa using this
  · intro v hv'
    cases hv'
    rcases hat with h1 | h1
    · obtain ⟨v, h2, h3⟩ := hown0 g h1
      exact .inl ⟨v, h2, by rw [h3]; rfl⟩
    · exact .inr ⟨g, rfl, Nat.le_trans hs.size h1⟩
  · intro p hp
    rcases List.mem_append.1 hp with hp | hp
    · exact pk_kept hin e.k (fun b o ho hM hnv => (hkeep b (Array.getElem?_eq_some_iff.1 ho).1 hM hnv).trans ho) (hin.pk e.k p hp)
    · obtain rfl : p = (v9, bs) := by simpa using hp
      exact ownsRow_lower hpk5 hbase
  · have hg4 := hgrow
    refine ⟨hs45.os.trans (hgrow.os.trans hs.os), hs45.tape.trans (hgrow.tape.trans hs.tape), hs45.output.trans (hgrow.output.trans hs.output), Nat.le_trans hs.size (Nat.le_trans hgrow.size hs45.size), fun b hb => ?_⟩
    refine hkeep b (Nat.lt_of_lt_of_le hb hbase) (fun e2 => by have := hin.hM; omega) (fun v hv' e2 => ?_)
    have hr := hin.row e.k
    rw [hv'] at hr
    obtain ⟨_, _, h1, _⟩ := own_block hr.2 e2
    omega
end
end Go.Proofs.YtgibpiakeaplbaaDoor
