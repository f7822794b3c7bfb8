/-
  disk: Loose, Sync. Own work.
-/
import Derived.Test.YtfhdcjfkngflbaaDoorDiskRange
set_option linter.unusedSimpArgs false
set_option linter.unusedVariables false
namespace Go.Proofs.YtfhdcjfkngflbaaDoor
open Go Go.RowKit
open Go.ChangeMaps (setBlock)

def openK (s : St) (k : ByteArray) : Int := match s.R k with | some r => openOf r.loose | none => 0
def sumK (s : St) (dn : List (MEnt ByteArray)) : Int := (dn.map fun e => openK s e.k).sum
def looseOf (s : St) : Int := sumK s s.L
theorem sumK_perm (s : St) {a b : List (MEnt ByteArray)} (h : a.Perm b) : sumK s a = sumK s b := by
  unfold sumK
  induction h with
  | nil => rfl
  | cons x _ ih => simp [ih]
  | swap x y l => simp; omega
  | trans _ _ h1 h2 => exact h1.trans h2
theorem sumK_snoc (s : St) (dn : List (MEnt ByteArray)) (e : MEnt ByteArray) : sumK s (dn ++ [e]) = sumK s dn + openK s e.k := by simp [sumK]

section
variable {base : Nat} {w w' : World} {s : St}
theorem DiskAt.mem (h : DiskAt base w s) {e : MEnt ByteArray} (he : e ∈ s.L) : ∃ r, s.R e.k = some r ∧ e.v = ptrF r := by
  have h1 := lkV_of_mem h.wf he
  rw [h.lk] at h1
  cases hr : s.R e.k with
  | none => rw [hr] at h1; cases h1
  | some r => rw [hr] at h1; exact ⟨r, rfl, by simpa using h1.symm⟩
theorem DiskAt.openK_le (h : DiskAt base w s) (k : ByteArray) : 0 ≤ openK s k ∧ openK s k ≤ 1048576 := by
  unfold openK
  cases hr : s.R k with
  | none => simp
  | some r =>
    have hrec := h.recs k r hr
    have h1 := len_open r.loose hrec.pos
    have h2 := hrec.sum
    have h3 := hrec.few
    simp only; omega
theorem DiskAt.sumK_le (h : DiskAt base w s) (dn : List (MEnt ByteArray)) : 0 ≤ sumK s dn ∧ sumK s dn ≤ 1048576 * dn.length := by
  induction dn with
  | nil => simp [sumK]
  | cons e l ih =>
    have h1 := h.openK_le e.k
    have e1 : sumK s (e :: l) = openK s e.k + sumK s l := by simp [sumK]
    rw [e1]; simp; omega
end

theorem loose_nil (w : World) : Calls Tryd.prog 18 #[.pointer none] w fun e w' => e = .returned (.int .i64 0) ∧ w = w' := by
  go_enter Tryd.func18, Tryd.ntmps18
  go_wp2
  go_ret
  exact ⟨rfl, rfl⟩

set_option maxHeartbeats 1000000 in
theorem loose_any (base : Nat) (s : St) (w : World) (h : DiskAt base w s) : Calls Tryd.prog 18 #[.pointer (some ⟨s.B, 0, none⟩)] w fun e w' => e = .returned (.int .i64 (looseOf s)) ∧ Below w.heap.size w w' := by
  have H := Lib.hid h
  obtain ⟨c0, _, _⟩ := h.cells
  clear h
  go_enter Tryd.func18, Tryd.ntmps18
  go_wp2_with (refine wpList_range_at rfl _ 48 rfl 9 52 Tryd.underlying48 rfl H.out.map H.out.wf ?_; intro w0 hrg0 hg0 hs0; have HR0 := Lib.hid hrg0; have HB0 : Hid (Below w.heap.size w w0) := (Below.refl _ w).grown hg0 (Nat.le_refl _) (fun g e => by cases e); clear hrg0 hg0 hs0)
  go_frame
  go_loopw [3] (fun t wr => ∃ (dn : List (MEnt ByteArray)), t = .int .i64 (sumK s dn) ∧ Hid (IterAt Value.string wr s.M w.heap.size s.L s.c dn ∧ Below w.heap.size w wr)) (fun _ wr => iterLeft w.heap.size s.L.length wr)
  case atStart => exact ⟨[], rfl, HR0.out, HB0.out⟩
  case round =>
    obtain ⟨dn, rfl, HS⟩ := hrel
    go_wp2_with (refine wpList_next_at rfl _ rfl rfl HS.out.1 ?_ ?_)
    · intro hp
      have HP := Lib.hid (sumK_perm s hp)
      go_wp2
      go_ret
      exact ⟨by rw [HP.out]; rfl, HS.out.2⟩
    · intro e he hnd w2 hrg2 hg2 hs2 hen
      obtain ⟨r, hr, hv⟩ := H.out.mem he
      obtain ⟨k9, v9, b9⟩ := e
      simp only at hr hv hen hrg2
      subst hv
      have HS2 : Hid (IterAt Value.string w2 s.M w.heap.size s.L s.c (dn ++ [⟨k9, ptrF r, b9⟩]) ∧ Below w.heap.size w w2) := ⟨hrg2, HS.out.2.grown hg2 HS.out.2.size (fun g e => by cases e; exact Nat.le_refl _)⟩
      have HRK : Hid (openK s k9 = openOf r.loose) := by unfold openK; rw [Hid, hr]
      have HO : Hid (Calls Tryd.prog 29 #[.pointer (some ⟨r.F, 0, none⟩)] w2 fun e w' => e = .returned (.int .i64 (openOf r.loose)) ∧ Below w2.heap.size w2 w') := open_any r w2 ((H.out.below HS2.out.2).recs k9 r hr)
      have hle := hrg2.le
      have HL9 : Hid (dn.length + 1 ≤ s.L.length) := by simp only [Hid]; simpa using hle
      have hb1 := H.out.sumK_le dn
      have hb2 := H.out.openK_le k9
      rw [HRK.out] at hb2
      obtain ⟨q, hq⟩ : ∃ q, Hid (sumK s dn = q) := ⟨_, rfl⟩
      obtain ⟨z, hz⟩ : ∃ z, Hid (openOf r.loose = z) := ⟨_, rfl⟩
      rw [hz.out] at hb2 HO
      rw [hq.out] at hb1 ⊢
      have hw1 : IntKind.i64.wrap (q + z) = q + z := by
        have h1 := HL9.out
        have h2 := H.out.few
        rw [IntKind.wrap_i64]; omega
      have HQ : Hid (sumK s (dn ++ [⟨k9, ptrF r, b9⟩]) = q + z) := by rw [Hid, sumK_snoc, hq.out]; simp only; rw [HRK.out, hz.out]
      have HITER := Lib.hid hrg2
      simp only [ptrF] at hen
      clear hrg2 hg2 hs2 hle hb1 hb2 he hnd hr
      go_wp2_with (go_at_call 29; refine HO.out.mono ?_; rintro e w3 ⟨rfl, hb3⟩; have HB3 := Lib.hid hb3; clear hb3)
      have HIT3 : Hid (IterAt Value.string w3 s.M w.heap.size s.L s.c (dn ++ [⟨k9, ptrF r, b9⟩]) ∧ Below w.heap.size w w3) := by
        refine ⟨?_, HS2.out.2.trans (HB3.out.mono HS2.out.2.size)⟩
        exact HS2.out.1.ofEq (HB3.out.block _ HS2.out.1.1.lt) (HB3.out.block _ HS2.out.1.lt)
      go_roundw
      case rel => exact ⟨_, by rw [HQ.out], HIT3.out⟩
      case measure => rw [HIT3.out.1.left, HS.out.1.left]; have := HL9.out; simp; omega
end Go.Proofs.YtfhdcjfkngflbaaDoor
