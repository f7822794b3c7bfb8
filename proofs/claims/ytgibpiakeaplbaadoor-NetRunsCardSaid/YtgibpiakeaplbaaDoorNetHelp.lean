/-
  The reference's small helpers on bytes: Bytes, Twin. Own work.
-/
import Derived.Test.YtgibpiakeaplbaaDoorNetDouble
import Derived.Laws.IdiomStrings
import Derived.Lib.BufferRead
import Derived.WalkSpells
set_option linter.unusedSimpArgs false
set_option linter.unusedVariables false
namespace Go.Proofs.YtgibpiakeaplbaaDoor
open Go Go.RowKit

theorem conv_bytes (A : Option Addr) (bs : List UInt8) (c : Nat) (w : World) (h : BytesAt w A bs) : (convert 27 9 (.slice A bs.length c)).run Tryd.prog w = .ok (.string ⟨bs.toArray⟩) w := by
  cases A with
  | none =>
    have h0 := h.1 rfl
    rw [h0, List.eq_nil_of_length_eq_zero h0]
    exact Lib.run_convert_nil_bytes w _ _ _ c Tryd.underlying27 Tryd.underlying5 Tryd.underlying9
  | some ad =>
    refine run_convert_bytes_back w _ _ _ ad c bs Tryd.underlying27 Tryd.underlying5 Tryd.underlying9 fun j hj => ?_
    exact h.2 ad rfl j _ (by simp [byteVs, byteV, hj])

theorem bytes_any (A A' : Option Addr) (bs bs' : List UInt8) (c c' : Nat) (w : World) (h : BytesAt w A bs) (h' : BytesAt w A' bs') :
    Calls Tryd.prog 20 #[.slice A bs.length c, .slice A' bs'.length c'] w fun e w' => e = .returned (.bool (decide (bs = bs'))) ∧ w' = w := by
  have e1 := conv_bytes A bs c w h
  have e2 := conv_bytes A' bs' c' w h'
  go_enter Tryd.func20, Tryd.ntmps20
  go_wp2
  go_ret
  exact ⟨congrArg (fun b => Ending.returned (.bool b)) (by rw [Bool.eq_iff_iff]; simp), rfl⟩

theorem twin_none (c : Nat) (w : World) : Calls Tryd.prog 18 #[.slice none 0 c] w fun e w' => ∃ v, e = .returned v ∧ PktOK w.heap.size w' (v, []) ∧ Below w.heap.size w w' := by
  go_enter Tryd.func18, Tryd.ntmps18
  go_wp2
  go_ret
  exact ⟨_, rfl, World.ownsRow_made w #[] 0 (Nat.le_refl _) (by simp) (by simp), (Below.refl _ _).alloc (Nat.le_refl _) _⟩

theorem byte_info : (Tryd.prog.info? 5).map (fun i => (i.zero, i.size, i.bytes)) = some (some (.int .u8 0), 1, 1) := by kernel_rfl

theorem twin_any (A : Option Addr) (bs : List UInt8) (c : Nat) (w : World) (h : BytesAt w A bs) (hlen : bs.length ≤ 2000000) :
    Calls Tryd.prog 18 #[.slice A bs.length c] w fun e w' => ∃ v, e = .returned v ∧ PktOK w.heap.size w' (v, bs) ∧ Below w.heap.size w w' := by
  cases A with
  | none =>
    have h0 := h.1 rfl
    have h1 := List.eq_nil_of_length_eq_zero h0
    subst h1
    exact twin_none c w
  | some ad =>
    obtain ⟨i0, hi, hz0, hz1, hz2⟩ := info_parts byte_info
    have hown0 : (w.alloc (.cells #[] 5)).ownsRow w.heap.size 5 1 (.slice (some ⟨w.heap.size, 0, none⟩) 0 0) 0 [] := World.ownsRow_made w #[] 0 (Nat.le_refl _) (by simp) (by simp)
    have hx2 : Hid (∀ j u, (byteVs bs)[j]? = some u → (w.alloc (.cells #[] 5)).cell? (ad.add j) = some u) := fun j u hu => by
      have := h.2 ad rfl j u hu
      rw [World.cell?_alloc_lt _ _ _ (World.block_lt_of_cell? w _ this)]; exact this
    have h1' : Hid (∀ u ∈ byteVs bs, u.oneCell' = true) := byteVs_one bs
    have hl' : Hid ((byteVs bs).length = bs.length * 1) := by simp [Hid, byteVs]
    have hn' : Hid (0 + bs.length ≤ maxLen) := Nat.le_trans (show 0 + bs.length ≤ 2000000 by omega) (by decide)
    have hb' : Hid ((0 + bs.length) * 1 ≤ 140737488355328) := Nat.le_trans (Nat.mul_le_mul_right 1 (show 0 + bs.length ≤ 2000000 by omega)) (by decide)
    have hs' : Hid (w.heap.size ≤ (w.alloc (.cells #[] 5)).heap.size) := by simp [Hid]
    clear h hlen
    go_enter Tryd.func18, Tryd.ntmps18
    go_wp2_with (at_builtin; refine wpList_append_own _ rfl _ _ 27 rfl w.heap.size 5 i0 (.int .u8 0) 1 1 Tryd.underlying27 hi hz0 hz1 hz2 rfl (by decide) _ 0 [] rfl hown0 ad bs.length c (byteVs bs) rfl hl'.out hx2.out h1'.out hn'.out hb'.out hs'.out ?_; intro v' w1 hown1 hgrow hnil)
    have hg : (w.alloc (.cells #[] 5)).grownBy w1 (some w.heap.size) := hgrow
    clear hgrow hnil
    have hfin : Hid (w1.ownsRow w.heap.size 5 1 v' bs.length (byteVs bs) ∧ Below w.heap.size w w1) :=
      ⟨by simpa using hown1, ((Below.refl _ _).alloc (Nat.le_refl _) _).grown hg (by simp) (fun k h => by cases h; exact Nat.le_refl _)⟩
    clear hg hown1 hown0
    go_ret
    exact ⟨v', rfl, hfin.out.1, hfin.out.2⟩

theorem node_ref (x : Int) (w : World) : Calls Tryd.prog 11 #[.int .i64 x] w fun e w' => e = .returned (.bool (nodeB x)) ∧ w' = w := by
  by_cases h1 : -1 ≤ x
  · by_cases h2 : x < 8
    · have e : nodeB x = true := by simp [nodeB, h1, h2]
      rw [e]
      have d1 : decide (x ≥ -1) = true := by simp; omega
      go_enter Tryd.func11, Tryd.ntmps11
      go_wp2
      go_ret
      exact ⟨rfl, rfl⟩
    · have e : nodeB x = false := by simp [nodeB, h1, h2]
      rw [e]
      have d1 : decide (x ≥ -1) = true := by simp; omega
      go_enter Tryd.func11, Tryd.ntmps11
      go_wp2
      go_ret
      exact ⟨rfl, rfl⟩
  · have e : nodeB x = false := by simp [nodeB, h1]
    rw [e]
    have d1 : decide (x ≥ -1) = false := by simp; omega
    go_enter Tryd.func11, Tryd.ntmps11
    go_wp2
    go_ret
    exact ⟨rfl, rfl⟩
end Go.Proofs.YtgibpiakeaplbaaDoor
