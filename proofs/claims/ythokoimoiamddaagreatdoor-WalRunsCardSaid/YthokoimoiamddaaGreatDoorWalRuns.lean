/-
  wal: the law WalRuns. Own work.
-/
import Derived.Test.YthokoimoiamddaaGreatDoorB15
set_option linter.unusedSimpArgs false
set_option linter.unusedVariables false
namespace Go.Proofs.YthokoimoiamddaaGreatDoor
open Go Go.RowKit

set_option maxRecDepth 20000 in
set_option maxHeartbeats 4000000 in
theorem runs_any (A : Option Addr) (c : Nat) (l : List WOp) (w : World) (hA : WOps w A l) (hl : l.length ≤ 140737488351232) (hE : ErrS w) (hT : ErrT w) :
    Calls Tryz.prog 5 #[.slice A l.length c] w fun e w' => e = .returned (.bool true) ∧ Below w.heap.size w w' := by
  have HA := Lib.hid hA
  have HE := Lib.hid hE
  have HT : Hid (ErrT w ∧ 0 < w.heap.size) := ⟨hT, World.block_lt_of_cell? w ⟨0, 0, none⟩ hT⟩
  have HF : Hid (∀ W, Below w.heap.size w W → Calls Tryz.prog 20 #[.slice A l.length c] W fun e w' => e = .returned (.bool (fewW l)) ∧ Below W.heap.size W w') := fun W hW => wfew_any A c l W (hA.below hW) hl
  obtain ⟨n, hn⟩ : ∃ n, l.length = n := ⟨_, rfl⟩
  have HN := Lib.hid hn
  rw [hn] at HF ⊢
  clear hA hl hE hT hn
  cases hf : fewW l with
  | false =>
    rw [hf] at HF
    clear hf
    go_enter Tryz.func5, Tryz.ntmps5
    go_wp2_with fail
    refine (awake_any _ HE.out).mono ?_
    rintro e w1 ⟨rfl, hb1⟩
    have HB1 := Lib.hid hb1
    clear hb1
    go_wp2_with fail
    refine (HF.out _ HB1.out).mono ?_
    rintro e w2 ⟨rfl, hb2⟩
    have HB2 : Hid (Below w.heap.size w w2) := HB1.out.trans (hb2.mono HB1.out.size)
    clear hb2
    go_wp2_with fail
    go_ret
    exact ⟨rfl, HB2.out⟩
  | true =>
    rw [hf] at HF
    have HFW := Lib.hid (wfew_is hf)
    clear hf
    go_enter Tryz.func5, Tryz.ntmps5
    go_wp2_with fail
    refine (awake_any _ HE.out).mono ?_
    rintro e w1 ⟨rfl, hb1⟩
    have HB1 := Lib.hid hb1
    clear hb1
    go_wp2_with fail
    refine (HF.out _ HB1.out).mono ?_
    rintro e w2 ⟨rfl, hb2⟩
    have HB2 : Hid (Below w.heap.size w w2) := HB1.out.trans (hb2.mono HB1.out.size)
    clear hb2
    go_wp2_with fail
    refine (newDisk_any _).mono ?_
    rintro e w' ⟨rfl, rfl⟩
    obtain ⟨w3, hw3⟩ : ∃ w3, w3 = (w2.alloc (.map #[] 0)).alloc (.cells #[.map (some w2.heap.size), .int .i64 0] 60) := ⟨_, rfl⟩
    have HB3 : Hid (Below w2.heap.size w2 w3) := by rw [hw3]; exact ((Below.refl _ _).alloc (Nat.le_refl _) _).alloc (by simp) _
    have HB4 : Hid (Below w.heap.size w w3) := HB2.out.trans (HB3.out.mono HB2.out.size)
    have HD3 : Hid (LgD w2.heap.size w3 (w2.heap.size + 1) kLog (newSt w2) (fun _ => none) [] fnd0 0) := by
      have h9 := HE.out.below HB4.out
      rw [hw3] at h9 ⊢
      exact lgD_new (dk_new w2) h9 (HE.out.below HB2.out).one (by decide) kLog 0
    rw [← hw3]
    clear hw3
    go_wp2_with fail
    refine (play_any HD3.out (oth_none kLog) (HT.out.1.below HB4.out) (by have := HT.out.2; have := HB2.out.size; omega) A n c l HN.out HA.out HB4.out HB2.out.size HFW.out.1 (by rw [← HN.out]; exact HFW.out.2) (by decide) (by decide)).mono ?_
    rintro e w4 ⟨g, whole, sA, m, sc, rA, n', rc, safe, rfl, H4⟩
    go_wp2_with fail
    go_ret
    obtain ⟨s, f, j, _, _, _, hfr⟩ := H4.out
    have hb5 : Below w.heap.size w w4 := HB4.out.trans ((HD3.out.below_of hfr).mono HB2.out.size)
    exact ⟨rfl, hb5.trans ((Below.refl _ _).alloc hb5.size _)⟩
end Go.Proofs.YthokoimoiamddaaGreatDoor
