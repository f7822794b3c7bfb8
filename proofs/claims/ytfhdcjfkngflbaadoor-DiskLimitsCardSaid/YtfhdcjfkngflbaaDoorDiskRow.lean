/-
  disk: an append to a file's bytes, whose slice may be cut short of its block. Own work.
-/
import Derived.Test.YtfhdcjfkngflbaaDoorDiskState
set_option linter.unusedSimpArgs false
set_option linter.unusedVariables false
namespace Go.Proofs.YtfhdcjfkngflbaaDoor
open Go Go.RowKit

theorem byte_info : (Tryd.prog.info? 5).map (fun i => (i.zero, i.size, i.bytes)) = some (some (.int .u8 0), 1, 1) := by kernel_rfl
theorem info_parts {o : Option TypeInfo} {z : Option Value} {s b : Nat} (h : o.map (fun i => (i.zero, i.size, i.bytes)) = some (z, s, b)) : ∃ i, o = some i ∧ i.zero = z ∧ i.size = s ∧ i.bytes = b := by
  cases o with
  | none => cases h
  | some i => simp at h; exact ⟨i, rfl, h.1, h.2.1, h.2.2⟩
theorem byteVs_append (a b : List UInt8) : byteVs (a ++ b) = byteVs a ++ byteVs b := by simp [byteVs]
theorem byteVs_len (bs : List UInt8) : (byteVs bs).length = bs.length := by simp [byteVs]
theorem byteVs_one (bs : List UInt8) : ∀ u ∈ byteVs bs, u.oneCell' = true := fun u hu => by
  obtain ⟨b, _, rfl⟩ := List.mem_map.1 hu; rfl

/-- Bytes that came in, or lie wherever. -/
def BytesAt (w : World) (A : Option Addr) (bs : List UInt8) : Prop := (A = none → bs.length = 0) ∧ ∀ ad, A = some ad → ∀ j u, (byteVs bs)[j]? = some u → w.cell? (ad.add j) = some u
theorem BytesAt.below {w w' : World} {A : Option Addr} {bs : List UInt8} (h : BytesAt w A bs) (hb : Below w.heap.size w w') : BytesAt w' A bs :=
  ⟨h.1, fun ad hA j u hu => by
    have hc := h.2 ad hA j u hu
    exact (World.cell?_of_block (w := w) (hb.block _ (World.block_lt_of_cell? w _ hc))).trans hc⟩

theorem DRow.cells {w : World} {g n cap : Nat} {bs : List UInt8} (h : DRow w (.slice (some ⟨g, 0, none⟩) n cap) bs) : n = bs.length ∧ ∀ j u, (byteVs bs)[j]? = some u → w.cell? ((⟨g, 0, none⟩ : Addr).add j) = some u := by
  rcases h with ⟨hv, _⟩ | ⟨g', cap', cur, hv, hh, h1, h2, h3, h4⟩
  · cases hv
  · cases hv
    refine ⟨rfl, fun j u hu => ?_⟩
    have hj : j < bs.length := by have := (List.getElem?_eq_some_iff.1 hu).1; simpa [byteVs] using this
    have e : w.cell? ⟨g, j, none⟩ = cur[j]? := by simp [World.cell?, hh]
    rw [Addr.add_lit, Nat.zero_add, e, ← hu, ← h4, List.getElem?_take, if_pos hj]; simp

theorem drow_new (w : World) (cur : Array Value) (cap : Nat) (bs : List UInt8) (hc : cur.toList.take bs.length = byteVs bs) (h1 : bs.length ≤ cap) (h2 : cap ≤ cur.size) (h3 : cap ≤ maxLen) : DRow (w.alloc (.cells cur 5)) (.slice (some ⟨w.heap.size, 0, none⟩) bs.length cap) bs :=
  .inr ⟨w.heap.size, cap, cur, rfl, heap_alloc_new w _, h1, h2, h3, hc⟩

theorem append_bytes {w : World} {v : Value} {bs nb : List UInt8} (h : DRow w v bs) (A : Option Addr) (c : Nat) (ty : TypeId) (hA : BytesAt w A nb) (hb : bs.length + nb.length ≤ 2000000) :
    ∃ v' w', (Builtin.append_ #[28, 28] ty #[v, .slice A nb.length c]).run Tryd.prog w = .ok v' w' ∧ DRow w' v' (bs ++ nb) ∧ w.grownBy w' v.ownBlock ∧ (∀ g, v'.ownBlock = some g → v.ownBlock = some g ∨ w.heap.size ≤ g) := by
  obtain ⟨i, hi, hz0, hz1, hz2⟩ := info_parts byte_info
  have ht := Tryd.underlying28
  have hlen : bs.length + nb.length = (bs ++ nb).length := by simp
  have hmx : ∀ k, k ≤ 2000000 → k ≤ maxLen := fun k hk => Nat.le_trans hk (by decide)
  by_cases h0 : nb.length = 0
  · -- nothing comes
    have hnb : nb = [] := List.eq_nil_of_length_eq_zero h0
    subst hnb
    refine ⟨v, w, ?_, by simpa using h, ⟨rfl, rfl, rfl, Nat.le_refl _, fun _ _ _ => rfl⟩, fun g hg => .inl hg⟩
    rcases h with ⟨rfl, hbs⟩ | ⟨g, cap, cur, rfl, hh, h1, h2, h3, h4⟩
    · cases A <;> simp [Builtin.append_, run_underlying ht, sizeOf, typeInfo, hi, hz1, Builtin.lenOf, Builtin.firstCells, loadCells, loadCellsFrom]
    · cases A <;> simp [Builtin.append_, run_underlying ht, sizeOf, typeInfo, hi, hz1, Builtin.lenOf, Builtin.firstCells, loadCells, loadCellsFrom, h1, storeCells]
  · cases A with
    | none => exact absurd (hA.1 rfl) h0
    | some ad =>
      have hnews := hA.2 ad rfl
      have hl : (byteVs nb).length = nb.length * i.size := by rw [byteVs_len, hz1, Nat.mul_one]
      rcases h with ⟨rfl, hbs⟩ | ⟨g, cap, cur, rfl, hh, h1, h2, h3, h4⟩
      · subst hbs
        have hr := run_append_nil (P := Tryd.prog) w 28 ty 5 i (.int .u8 0) ht hi hz0 ad nb.length c (byteVs nb) hl hnews (by omega) (by simp at hb; omega) (by rw [hz2]; simp at hb; omega)
        refine ⟨_, _, hr, ?_, ⟨rfl, rfl, rfl, by simp, fun k hk _ => (by first | exact heap_alloc_old w.drew _ hk | exact heap_alloc_old w.drew _ k hk)⟩, fun g hg => ?_⟩
        · have hge := grownCap_ge w nb.length 0 5
          have hcm := grownCap_le_maxLen w nb.length 0 5 (hmx _ (by simp at hb; omega))
          refine drow_new w.drew _ _ nb ?_ hge ?_ hcm
          · simp [byteVs_len]
          · rw [Array.size_append, List.size_toArray, byteVs_len, size_zeroCells]
            show _ ≤ nb.length + (_ - nb.length) * 1
            omega
        · simp [Value.ownBlock] at hg; right; omega
      · by_cases hroom : bs.length + nb.length ≤ cap
        · have hr := run_append_room (P := Tryd.prog) w 28 ty 5 i ht hi g bs.length cap cur hh ad nb.length c (byteVs nb) hl hnews (byteVs_one nb) hroom (by rw [hz1, byteVs_len]; omega)
          refine ⟨_, _, hr, .inr ⟨g, cap, _, by rw [hlen], setRow_heap w g cur _ 5 _ hh, by simpa using hroom, ?_, h3, ?_⟩, ⟨rfl, rfl, rfl, by simp, fun k _ hk => setRow_other w g k _ (fun e => hk (by simp [Value.ownBlock, e]))⟩, fun g' hg => .inl hg⟩
          · simp [hz1, byteVs_len]; omega
          · have e : (byteVs bs ++ byteVs nb).length = (bs ++ nb).length := by simp [byteVs_len]
            rw [hz1, Nat.mul_one, h4, byteVs_append]
            show List.take (bs ++ nb).length (byteVs bs ++ byteVs nb ++ _) = _
            rw [← e]
            exact List.take_left
        · have hd : DRow w (.slice (some ⟨g, 0, none⟩) bs.length cap) bs := .inr ⟨g, cap, cur, rfl, hh, h1, h2, h3, h4⟩
          have hr := run_append_grow (P := Tryd.prog) w 28 ty 5 i (.int .u8 0) ht hi hz0 ⟨g, 0, none⟩ bs.length cap (byteVs bs) (by rw [byteVs_len, hz1, Nat.mul_one]) hd.cells.2 ad nb.length c (byteVs nb) hl hnews (by omega) (by omega) (growslice_fits (by omega) (by rw [hz2]; omega))
          refine ⟨_, _, hr, ?_, ⟨rfl, rfl, rfl, by simp, fun k hk _ => (by first | exact heap_alloc_old w.drew _ hk | exact heap_alloc_old w.drew _ k hk)⟩, fun g hg => ?_⟩
          · have hge := grownCap_ge w (bs.length + nb.length) cap 5
            have hcm := grownCap_le_maxLen w (bs.length + nb.length) cap 5 (hmx _ hb)
            have := drow_new w.drew ((byteVs bs).toArray ++ (byteVs nb).toArray ++ Builtin.zeroCells (Value.int .u8 0).cells (grownCap w (bs.length + nb.length) cap 5 - (bs.length + nb.length))) (grownCap w (bs.length + nb.length) cap 5) (bs ++ nb) (by
              have e : (byteVs bs ++ byteVs nb).length = (bs ++ nb).length := by simp [byteVs_len]
              rw [Array.toList_append, Array.toList_append, byteVs_append]
              show List.take (bs ++ nb).length (byteVs bs ++ byteVs nb ++ _) = _
              rw [← e]
              exact List.take_left) (by simpa using hge) (by
              rw [Array.size_append, Array.size_append, List.size_toArray, List.size_toArray, byteVs_len, byteVs_len, size_zeroCells]
              show _ ≤ bs.length + nb.length + (_ - (bs.length + nb.length)) * 1
              omega) hcm
            rw [← hlen] at this
            exact this
          · simp [Value.ownBlock] at hg; right; omega
end Go.Proofs.YtfhdcjfkngflbaaDoor
