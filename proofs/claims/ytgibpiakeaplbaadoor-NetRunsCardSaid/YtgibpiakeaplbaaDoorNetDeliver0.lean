/-
  net: Deliver's parts: what stands behind the shift and behind the dropped entry. Own work.
-/
import Derived.Test.YtgibpiakeaplbaaDoorNetDel
import Derived.Test.YtgibpiakeaplbaaDoorNetSend1
import Derived.Deep.RegionLaw
set_option linter.unusedSimpArgs false
set_option linter.unusedVariables false
namespace Go.Proofs.YtgibpiakeaplbaaDoor
open Go Go.RowKit
open Go.ChangeMaps (setBlock)

/-- 'delete(m, k)' at a step of a region that draws its order. -/
theorem step_drop_at {P : Program} {w : World} {ops : Array Oper} {o : Oper} {a : Act} {K : Act → World → Prop} {Q : Exit → Act → World → Prop} {E : Prop} {κ : Type} [DecidableEq κ] {kT eT : TypeId} {kv : κ → Value} {b c : Nat} {L : List (MEnt κ)}
    (hgd : o.guard = none) (s x : Operand) (t : TypeId) (ho : o.op = .call { callee := .builtin .delete, args := #[s, x], argTypes := #[t, kT] }) (ko : KeyOps P kT kv) (ht : P.underlying t = some (.map kT eT)) (hat : MapAt kv w b L c) (k : κ)
    (hs : a.eval s = .map (some b)) (hx : a.eval x = kv k)
    (h : ∀ w', MapAt kv w' b (delE k L) c → Since w w' b → K (a.put o.dst (.tuple #[])) w') :
    if Region.wanted o (yielded ops a.tmps) = true then Oper.wp P o a w K Q else E := by
  have hw : Region.wanted o (yielded ops a.tmps) = true := by simp [Region.wanted, hgd]
  rw [if_pos hw]
  have hr := run_drop (P := P) (ty := o.type) (TT := #[t, kT]) ko ht rfl hat k
  unfold Oper.wp execOp
  simp only [ho, resolve, invoke, builtin, Sem.run_bind, Sem.run_pure, Result.andThen_ok, List.map_toArray, List.map_cons, List.map_nil, hs, hx, hr]
  exact h _ (mapAt_setBlock hat.lt) (Since.set _)

theorem pkt_encS {b : Nat} {w : World} {p : Pkt} (h : PktOK b w p) : ∃ s : SlD, encS s = p.1 := by
  obtain ⟨A, c, e⟩ := own_slice h
  exact ⟨(A, p.2.length, c), e.symm⟩

theorem pkts_encS {b : Nat} {w : World} {l : List Pkt} (h : ∀ p ∈ l, PktOK b w p) : ∃ s : List SlD, s.map encS = l.map (·.1) := by
  induction l with
  | nil => exact ⟨[], rfl⟩
  | cons p l ih =>
    obtain ⟨s, hs⟩ := ih (fun q hq => h q (by simp [hq]))
    obtain ⟨x, hx⟩ := pkt_encS (h p (by simp))
    exact ⟨x :: s, by simp [hs, hx]⟩

theorem map_erase {α β : Type} (f : α → β) : ∀ (l : List α) (i : Nat), (l.eraseIdx i).map f = (l.map f).eraseIdx i
  | [], _ => rfl
  | _ :: _, 0 => rfl
  | a :: l, i + 1 => by simp [map_erase f l i]

section
variable {base : Nat} {w W : World} {B M c : Nat} {L : List (MEnt (Int × Int))} {S : Int × Int → List Pkt}

/-- The row of a way that holds something. -/
theorem NetIn.there (h : NetIn base w B M c L S) {k : Int × Int} (hk : S k ≠ []) : ∃ g cap, lkV k L = some (.slice (some ⟨g, 0, none⟩) (S k).length cap) ∧ w.ownsRow base 27 1 (.slice (some ⟨g, 0, none⟩) (S k).length cap) (S k).length ((S k).map (·.1)) := by
  have hr := h.row k
  cases hv : lkV k L with
  | none => rw [hv] at hr; exact absurd hr hk
  | some v =>
    rw [hv] at hr
    rcases hr.2.2 with ⟨_, hn⟩ | ⟨g, cap, cur, rfl, _⟩
    · exact absurd (List.eq_nil_of_length_eq_zero hn) hk
    · exact ⟨g, cap, rfl, hr.2⟩

theorem row_cell {base g cap n i : Nat} {vs : List Value} {v : Value} (h : w.ownsRow base 27 1 (.slice (some ⟨g, 0, none⟩) n cap) n vs) (hi : vs[i]? = some v) : w.cell? ⟨g, i, none⟩ = some v := by
  have hlen : vs.length = n := by have := h.1; simpa using this
  have hil : i < n := by rw [← hlen]; exact (List.getElem?_eq_some_iff.1 hi).1
  rcases h.2 with ⟨h2, _⟩ | ⟨g', cap', cur, hv, hg, hh, h3, h4, h5, h6⟩
  · cases h2
  · injection hv with hv _ _
    injection hv with hv
    injection hv with hv _ _
    subst hv
    have hc : w.cell? ⟨g, i, none⟩ = cur[i]? := by simp [World.cell?, hh]
    rw [hc, ← hi, ← h6, List.getElem?_take, if_pos (by omega)]; simp

/-- Behind slices.Delete and the store of the shorter slice. -/
theorem del_step (hin : NetIn base w B M c L S) (hbase : base ≤ w.heap.size) {k : Int × Int} {g cap i n : Nat} (hv : lkV k L = some (.slice (some ⟨g, 0, none⟩) n cap)) (hn : (S k).length = n) (hi : i < n) {w3 : World}
    (h1 : w3.ownsRow base 27 1 (.slice (some ⟨g, 0, none⟩) (n - 1) cap) (n - 1) (((S k).map (·.1)).eraseIdx i)) (h2 : w.grownBy w3 (some g)) :
    ∃ w4, (Instr.mapUpdate 60 (.map (some M)) (.agg #[.int .i64 k.1, .int .i64 k.2]) (.slice (some ⟨g, 0, none⟩) (n - 1) cap)).run Tryd.prog w3 = .ok () w4 ∧
      Hid (MapAt pairV w4 M (putE k (.slice (some ⟨g, 0, none⟩) (n - 1) cap) c L) (clkE k L c)) ∧ Hid (KeepC w w4 ∧ Below base w w4) ∧
      Hid (1 < n → NetAt base w4 B (updS S k ((S k).eraseIdx i))) ∧
      Hid (n = 1 → ∀ w5, MapAt pairV w5 M (delE k (putE k (.slice (some ⟨g, 0, none⟩) (n - 1) cap) c L)) (clkE k L c) → Since w4 w5 M → NetAt base w5 B (updS S k ((S k).eraseIdx i)) ∧ KeepC w w5 ∧ Below base w w5) := by
  have hkn : S k ≠ [] := fun e => by rw [e] at hn; simp at hn; omega
  have hr := hin.row k
  rw [hv] at hr
  have hgM : g ≠ M := by
    rintro rfl
    obtain ⟨cur, hh, _⟩ := own_block hr.2 (g := g) rfl
    have h3 := hin.map
    unfold MapAt at h3
    rw [h3] at hh; cases hh
  have hm3 : MapAt pairV w3 M L c := (h2.block M hin.ltM (fun e => hgM (by cases e; rfl))).trans hin.map
  have hrun := run_store_map way_keys Tryd.underlying60 hm3 k (.slice (some ⟨g, 0, none⟩) (n - 1) cap)
  obtain ⟨w4, hw4⟩ : ∃ w4, w4 = setBlock w3 M (.map ((putE k (.slice (some ⟨g, 0, none⟩) (n - 1) cap) c L).map (MEnt.ent pairV)).toArray (clkE k L c)) := ⟨_, rfl⟩
  have hm4 : MapAt pairV w4 M (putE k (.slice (some ⟨g, 0, none⟩) (n - 1) cap) c L) (clkE k L c) := hw4 ▸ mapAt_setBlock hm3.lt
  have hs34 : Since w3 w4 M := hw4 ▸ Since.set _
  rw [← hw4] at hrun
  have hM3 := not_cells_of_map (show w3.heap[M]? = _ from hm3)
  have hbg : base ≤ g := by obtain ⟨_, _, h, _⟩ := own_block hr.2 (g := g) rfl; exact h
  have hk4 : ∀ b, b < w.heap.size → b ≠ M → b ≠ g → w4.heap[b]? = w.heap[b]? := fun b hb hM hg => (hs34.keep b (Nat.lt_of_lt_of_le hb h2.size) hM).trans (h2.block b hb (fun e => hg (by cases e; rfl)))
  have hkc : ∀ w5, (∀ b, b < w.heap.size → b ≠ M → b ≠ g → w5.heap[b]? = w.heap[b]?) → KeepC w w5 := by
    intro w5 h5 b cur t fr hb ht
    refine (h5 b (Array.getElem?_eq_some_iff.1 hb).1 ?_ ?_).trans hb
    · rintro rfl
      have h3 := hin.map
      unfold MapAt at h3
      rw [hb] at h3; cases h3
    · rintro rfl
      obtain ⟨cur', hh, _⟩ := own_block hr.2 (g := b) rfl
      rw [hb] at hh; injection hh with hh; injection hh with _ hh _; exact ht hh
  have hb34 : Below base w w4 := ⟨hs34.os.trans h2.os, hs34.tape.trans h2.tape, hs34.output.trans h2.output, Nat.le_trans h2.size hs34.size, fun b hb => hk4 b (Nat.lt_of_lt_of_le hb hbase) (fun e => by have := hin.hM; omega) (fun e => by omega)⟩
  have hl1 : ((S k).eraseIdx i).length = n - 1 := by rw [List.length_eraseIdx, if_pos (by omega), hn]
  have hpk : ∀ w5, KeepC w w5 → ∀ p ∈ (S k).eraseIdx i, PktOK base w5 p := fun w5 h5 p hp => h5.pkt (hin.pk k p (List.mem_of_mem_eraseIdx hp))
  refine ⟨w4, hrun, hm4, ⟨hkc w4 hk4, hb34⟩, ?_, ?_⟩
  · intro hn1
    refine ⟨_, _, _, net_upd hin k _ (some (.slice (some ⟨g, 0, none⟩) (n - 1) cap)) _ _ (fun b o ho hM hnv => ?_) hm4 hin.wf.put (fun k' => lkV_put) ⟨fun e => ?_, ?_⟩ ?_ (hpk w4 (hkc w4 hk4)) (by rw [hl1]; have := hin.most k; omega) (fun _ => hin.nodes k hkn) (fun p hp => hin.lens k p (List.mem_of_mem_eraseIdx hp))⟩
    · exact (hk4 b (Array.getElem?_eq_some_iff.1 ho).1 hM (fun e => hnv _ hv (by rw [e]; rfl))).trans ho
    · rw [e] at hl1; simp at hl1; omega
    · have h4 := hs34.row hM3 h1
      rw [hl1]
      rw [map_erase]
      exact h4
    · intro v hv'
      cases hv'
      exact .inl ⟨_, hv, rfl⟩
  · intro hn1 w5 hm5 hs45
    have hk5 : ∀ b, b < w.heap.size → b ≠ M → b ≠ g → w5.heap[b]? = w.heap[b]? := fun b hb hM hg => (hs45.keep b (Nat.lt_of_lt_of_le hb (Nat.le_trans h2.size hs34.size)) hM).trans (hk4 b hb hM hg)
    have hnil : (S k).eraseIdx i = [] := List.eq_nil_of_length_eq_zero (by omega)
    have hb5 : Below base w w5 := ⟨hs45.os.trans hb34.os, hs45.tape.trans hb34.tape, hs45.output.trans hb34.output, Nat.le_trans hb34.size hs45.size, fun b hb => hk5 b (Nat.lt_of_lt_of_le hb hbase) (fun e => by have := hin.hM; omega) (fun e => by omega)⟩
    refine ⟨⟨_, _, _, net_upd hin k _ none _ _ (fun b o ho hM hnv => ?_) hm5 hin.wf.put.del (fun k' => ?_) hnil (by simp) (hpk w5 (hkc w5 hk5)) (by rw [hnil]; simp) (fun h => absurd hnil h) (fun p hp => hin.lens k p (List.mem_of_mem_eraseIdx hp))⟩, hkc w5 hk5, hb5⟩
    · exact (hk5 b (Array.getElem?_eq_some_iff.1 ho).1 hM (fun e => hnv _ hv (by rw [e]; rfl))).trans ho
    · rw [lkV_del hin.wf.put, lkV_put]
      split <;> simp_all
end
end Go.Proofs.YtgibpiakeaplbaaDoor
