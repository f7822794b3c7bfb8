/-
  The law's 'full': 1024 packets on one way. Own work.
-/
import Derived.Test.YtgibpiakeaplbaaDoorNetRef
set_option linter.unusedSimpArgs false
set_option linter.unusedVariables false
namespace Go.Proofs.YtgibpiakeaplbaaDoor
open Go Go.RowKit

theorem rp_info : (Tryd.prog.info? 47).map (fun i => (i.zero, i.size, i.bytes)) = some (some (.agg #[.int .i64 0, .int .i64 0, .slice none 0 0]), 3, 40) := by kernel_rfl
theorem newrp (w : World) (a b c : Value) (t : TypeId) : ∀ j u, [a, b, c][j]? = some u → (w.alloc (.cells #[a, b, c] t)).cell? ((⟨w.heap.size, 0, none⟩ : Addr).add j) = some u :=
  World.news_of_block (cs := #[a, b, c]) (t := t) (fr := (0, 0)) (heap_alloc_new w _)

set_option maxHeartbeats 1000000 in
theorem full_any (k : Int × Int) (w : World) :
    Calls Tryd.prog 17 #[.int .i64 k.1, .int .i64 k.2] w fun e w' => ∃ A c, e = .returned (.slice A 1024 c) ∧ Hid (w'.ownsRow w.heap.size 47 3 (.slice A 1024 c) 1024 (rpCells (List.replicate 1024 (k, (none, 0, 0)))) ∧ Below w.heap.size w w') := by
  obtain ⟨i0, hi0, hz0, hz1, hz2⟩ := info_parts rp_info
  have hmx : Hid (∀ k, k < 1024 → k + 1 ≤ maxLen) := fun k hk => Nat.le_trans (show k + 1 ≤ 1024 by omega) (by decide)
  have hbx : Hid (∀ k, k < 1024 → (k + 1) * 40 ≤ 140737488355328) := fun k hk => by omega
  obtain ⟨m, hm⟩ : ∃ m : Nat, Hid (m = 1024) := ⟨_, rfl⟩
  go_enter Tryd.func17, Tryd.ntmps17
  go_wp2
  go_loopw [5, 6] (fun t i wr => ∃ (j : Nat) (A4 : Option Addr) (c4 : Nat), j ≤ m ∧ i = .int .i64 j ∧ t = .slice A4 j c4 ∧ Hid (wr.ownsRow w.heap.size 47 3 (.slice A4 j c4) j (rpCells (List.replicate j (k, (none, 0, 0)))) ∧ Below w.heap.size w wr)) (fun _ i _ => m - (intOf i).toNat)
  case atStart => exact ⟨0, none, 0, Nat.zero_le _, rfl, rfl, World.ownsRow_nil _ _ _ _, Below.refl _ _⟩
  case round =>
    obtain ⟨j, A4, c4, hj, rfl, rfl, HS⟩ := hrel
    by_cases hlt : j < m
    · have hj1 : ((j : Nat) : Int) < 1024 := by have := hm.out; omega
      have hj9 : Hid (j < 1024) := by have := hm.out; simp only [Hid]; omega
      have hw1 : IntKind.i64.wrap ((j : Int) + 1) = ((j + 1 : Nat) : Int) := by rw [IntKind.wrap_i64]; omega
      have HSZ : Hid (w.heap.size ≤ wr.heap.size) := HS.out.2.size
      go_wp2_with (at_builtin; refine wpList_append_own _ rfl _ _ 26 rfl w.heap.size 47 i0 _ 3 40 Tryd.underlying26 hi0 hz0 hz1 hz2 rfl (by decide) (.slice A4 j c4) j (rpCells (List.replicate j (k, (none, 0, 0)))) rfl (HS.out.1.alloc _) ⟨wr.heap.size, 0, none⟩ 1 1 [.int .i64 k.1, .int .i64 k.2, .slice none 0 0] rfl rfl (newrp wr _ _ _ _) (by simp [Value.oneCell']) (hmx.out j hj9.out) (hbx.out j hj9.out) (Nat.le_trans HSZ.out (by simp)) ?_; intro v' w1 hown1 hgrow hnil)
      have hg : (wr.alloc (.cells #[.int .i64 k.1, .int .i64 k.2, .slice none 0 0] 47)).grownBy w1 (Value.slice A4 j c4).ownBlock := hgrow
      obtain ⟨A5, c5, rfl⟩ := own_slice hown1
      have HF : Hid (w1.ownsRow w.heap.size 47 3 (.slice A5 (j + 1) c5) (j + 1) (rpCells (List.replicate (j + 1) (k, (none, 0, 0)))) ∧ Below w.heap.size w w1) := by
        refine ⟨?_, ?_⟩
        · rw [List.replicate_succ', rpCells_append, rpCells_one]
          exact hown1
        · exact HS.out.2.trans (((Below.refl _ wr).alloc HSZ.out _).grown hg (Nat.le_trans HSZ.out (by simp)) (fun b e => (HS.out.1.lt b e).1))
      clear hown1 hg hgrow hnil
      go_wp2
      exact ⟨⟨j + 1, _, _, hlt, rfl, rfl, HF.out⟩, by simp [intOf]; omega⟩
    · have hjn : j = 1024 := by have := hm.out; omega
      subst hjn
      go_wp2
      go_ret
      exact ⟨_, _, rfl, HS.out⟩
end Go.Proofs.YtgibpiakeaplbaaDoor
