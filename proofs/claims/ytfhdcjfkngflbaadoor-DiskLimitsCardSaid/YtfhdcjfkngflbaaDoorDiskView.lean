/-
  disk: a disk as names with bytes and loose pieces; each call as a step on it. Own work.
-/
import Derived.Test.YtfhdcjfkngflbaaDoorDiskHelp
set_option linter.unusedSimpArgs false
set_option linter.unusedVariables false
namespace Go.Proofs.YtfhdcjfkngflbaaDoor
open Go Go.RowKit

abbrev Vw := ByteArray → Option (List UInt8 × List (Int × Int))
def St.view (s : St) : Vw := fun k => (s.R k).map fun r => (r.data, r.loose)
def appV (v : Vw) (t : Int) (k : ByteArray) (bs : List UInt8) : Vw := fun k' =>
  if k' = k then some (((v k).map (·.1)).getD [] ++ bs, ((v k).map (·.2)).getD [] ++ (if bs = [] then [] else [(t + 1, (bs.length : Int))])) else v k'
def syncV (v : Vw) : Vw := fun k => (v k).map fun p => (p.1, [])
def keepP (f : Int → Int) (p : List UInt8 × List (Int × Int)) : Nat := ((p.1.length : Int) - openOf p.2 + leftSum f p.2).toNat
def crashV (f : Int → Int) (v : Vw) : Vw := fun k => (v k).map fun p => (p.1.take (keepP f p), [])
def dropV (v : Vw) (k : ByteArray) : Vw := fun k' => if k' = k then none else v k'
def cutP (n : Nat) (p : List UInt8 × List (Int × Int)) : List UInt8 × List (Int × Int) := (p.1.take n, shortL p.2 ((p.1.length : Int) - n))
def cutVw (v : Vw) (k : ByteArray) (n : Nat) : Vw := fun k' => if k' = k then (v k).map (cutP n) else v k'
def openV (v : Vw) (k : ByteArray) : Int := match v k with | some p => openOf p.2 | none => 0
def looseV (v : Vw) (k : ByteArray) : List (Int × Int) := match v k with | some p => p.2 | none => []
theorem openK_view (s : St) : openK s = openV s.view := by
  funext k
  unfold openK openV St.view
  cases s.R k <;> rfl
theorem looseK_view (s : St) : looseK s = looseV s.view := by
  funext k
  unfold looseK looseV St.view
  cases s.R k <;> rfl
theorem view_some (s : St) (k : ByteArray) : (s.R k).isSome = (s.view k).isSome := by
  unfold St.view
  cases s.R k <;> rfl
theorem view_new (w : World) : (newSt w).view = fun _ => none := rfl
theorem view_is {s : St} {k : ByteArray} {p : List UInt8 × List (Int × Int)} (h : s.view k = some p) : ∃ r, s.R k = some r ∧ r.data = p.1 ∧ r.loose = p.2 := by
  unfold St.view at h
  cases hr : s.R k with
  | none => rw [hr] at h; cases h
  | some r =>
    rw [hr] at h
    cases h
    exact ⟨r, rfl, rfl, rfl⟩
theorem view_none {s : St} {k : ByteArray} (h : s.view k = none) : s.R k = none := by
  unfold St.view at h
  cases hr : s.R k with
  | none => rfl
  | some r => rw [hr] at h; cases h

structure Step (base : Nat) (s : St) (w : World) (v : Vw) (t : Int) (n : Nat) (s' : St) (w' : World) : Prop where
  at_ : DiskAt base w' s'
  frame : Frame s s' w w'
  B : s'.B = s.B
  view : s'.view = v
  turn : s'.turn = t
  len : s'.L.length = n
  low : base ≤ w'.heap.size

section
variable {base : Nat} {w w' : World} {s s' : St}
theorem AppOK.step {k : ByteArray} {bs : List UInt8} (h : AppOK base s k bs w s' w') (hlow : base ≤ w.heap.size) :
    Step base s w (appV s.view s.turn k bs) (s.turn + (if bs = [] then 0 else 1)) (s.L.length + (if (s.view k).isSome then 0 else 1)) s' w' := by
  refine ⟨h.at_, h.frame, h.B, ?_, h.turn, by rw [h.few, view_some], Nat.le_trans hlow h.frame.size⟩
  funext k'
  unfold appV
  by_cases e : k' = k
  · subst e
    rw [if_pos rfl]
    obtain ⟨r', h1, h2, h3⟩ := h.new
    unfold St.view
    rw [h1, Option.map_some, h2, h3]
    cases s.R k' <;> rfl
  · rw [if_neg e]
    unfold St.view
    rw [h.rest k' e]

theorem append_step (k : ByteArray) (A : Option Addr) (n c : Nat) (bs : List UInt8) (hbn : bs.length = n) (hd : DiskAt base w s) (hlow : base ≤ w.heap.size) (hk : k.size ≤ 4611686018427387904) (hA : BytesAt w A bs) (hT : s.turn ≤ 4611686018427387904) (happ : appE s k n = none) :
    Calls Tryd.prog 7 #[.pointer (some ⟨s.B, 0, none⟩), .string k, .slice A n c] w fun e w' => e = .returned .nilIface ∧ ∃ s', Step base s w (appV s.view s.turn k bs) (s.turn + (if bs = [] then 0 else 1)) (s.L.length + (if (s.view k).isSome then 0 else 1)) s' w' := by
  refine (append_ok base s k A n c bs hbn w hd hlow hk hA hT happ).mono ?_
  rintro e w' ⟨rfl, s', h⟩
  exact ⟨rfl, s', h.step hlow⟩

theorem sync_step (hd : DiskAt base w s) (hlow : base ≤ w.heap.size) : Calls Tryd.prog 16 #[.pointer (some ⟨s.B, 0, none⟩)] w fun e w' => e = .returned .nilIface ∧ ∃ s', Step base s w (syncV s.view) s.turn s.L.length s' w' := by
  refine (sync_any base s w hd hlow).mono ?_
  rintro e w' ⟨rfl, s', h1, h2, h3, h4, h5, h6⟩
  refine ⟨rfl, s', h1, h2, h3, ?_, h5, by rw [h4], Nat.le_trans hlow h2.size⟩
  funext k
  unfold syncV St.view
  rw [h6 k]
  cases s.R k <;> rfl

theorem crash_step (keep : Int) (hd : DiskAt base w s) (hlow : base ≤ w.heap.size) (hk : 0 ≤ keep) (hk2 : keep ≤ 9223372036854775807) (hturn : s.turn ≤ 4611686018427387904) (hlo : looseOf s ≤ 1000000) : Calls Tryd.prog 17 #[.pointer (some ⟨s.B, 0, none⟩), .int .i64 keep] w fun e w' => e = .returned .nilIface ∧
    ∃ l' s', l'.Perm (allOf s s.L) ∧ l'.Pairwise (fun a b => a.1 < b.1) ∧ Step base s w (crashV (leftF l' keep) s.view) s.turn s.L.length s' w' := by
  refine (crash_any base s keep w hd hlow hk hk2 hturn hlo).mono ?_
  rintro e w' ⟨rfl, l', s', h0, h0b, h1, h2, h3, h4, h5, h6⟩
  refine ⟨rfl, l', s', h0, h0b, h1, h2, h3, ?_, h5, by rw [h4], Nat.le_trans hlow h2.size⟩
  funext k
  unfold crashV St.view
  rw [h6 k]
  cases s.R k <;> rfl

theorem delE_len {k : ByteArray} {L : List (MEnt ByteArray)} (h : (lkV k L).isSome = true) : (delE k L).length + 1 = L.length := by
  induction L with
  | nil => simp [lkV] at h
  | cons e L ih =>
    simp only [delE]
    simp only [lkV] at h
    split
    · simp
    · rename_i hk
      rw [if_neg hk] at h
      simp [ih h]

theorem delete_step {k : ByteArray} {p : List UInt8 × List (Int × Int)} (hd : DiskAt base w s) (hlow : base ≤ w.heap.size) (hv : s.view k = some p) : Calls Tryd.prog 11 #[.pointer (some ⟨s.B, 0, none⟩), .string k] w fun e w' => e = .returned .nilIface ∧ ∃ s', Step base s w (dropV s.view k) s.turn (s.L.length - 1) s' w' := by
  obtain ⟨r, hr, _, _⟩ := view_is hv
  refine (delete_hit base s k r w hd hr).mono ?_
  rintro e w' ⟨rfl, h1, h2⟩
  refine ⟨rfl, _, h1, h2, rfl, ?_, rfl, ?_, Nat.le_trans hlow h2.size⟩
  · funext k'
    show ((updR s.R k none) k').map _ = _
    unfold dropV
    by_cases e : k' = k
    · subst e; rw [updR_same, if_pos rfl]; rfl
    · rw [updR_other _ e, if_neg e]; rfl
  · have h3 := hd.lk k
    rw [hr] at h3
    have h4 := delE_len (k := k) (L := s.L) (by rw [h3]; rfl)
    show (delE k s.L).length = _
    omega

theorem cut_step {k : ByteArray} {p : List UInt8 × List (Int × Int)} (n : Nat) (hd : DiskAt base w s) (hlow : base ≤ w.heap.size) (hv : s.view k = some p) (hn : n ≤ p.1.length) : Calls Tryd.prog 15 #[.pointer (some ⟨s.B, 0, none⟩), .string k, .int .i64 n] w fun e w' => e = .returned .nilIface ∧ ∃ s', Step base s w (cutVw s.view k n) s.turn s.L.length s' w' := by
  obtain ⟨r, hr, h1, h2⟩ := view_is hv
  refine (cut_ok base s k r n w hd hlow hr (by rw [h1]; exact hn)).mono ?_
  rintro e w' ⟨rfl, dv, lv, h3, h4⟩
  refine ⟨rfl, _, h3, h4, rfl, ?_, rfl, rfl, Nat.le_trans hlow h4.size⟩
  funext k'
  show ((updR s.R k (some (cutRec r n dv lv))) k').map _ = _
  unfold cutVw
  by_cases e : k' = k
  · subst e
    rw [updR_same, if_pos rfl, hv]
    simp only [Option.map_some, cutRec, cutP, h1, h2]
  · rw [updR_other _ e, if_neg e]; rfl

/-- Read, at a file that is there. -/
theorem read_step {k : ByteArray} {p : List UInt8 × List (Int × Int)} (hd : DiskAt base w s) (hv : s.view k = some p) : Calls Tryd.prog 13 #[.pointer (some ⟨s.B, 0, none⟩), .string k] w fun e w' => ∃ A c, e = .returned (.tuple #[.slice A p.1.length c, .nilIface]) ∧ w'.ownsRow w.heap.size 5 1 (.slice A p.1.length c) p.1.length (byteVs p.1) ∧ Below w.heap.size w w' := by
  obtain ⟨r, hr, h1, h2⟩ := view_is hv
  refine (read_hit base s k r w hd hr).mono ?_
  rintro e w' ⟨A, c, rfl, h3⟩
  rw [h1] at h3 ⊢
  exact ⟨A, c, rfl, h3.out.1, h3.out.2⟩
theorem loose_step (hd : DiskAt base w s) {ks : List ByteArray} (hn : ks.Nodup) (hi : ∀ k, k ∈ ks ↔ (s.view k).isSome = true) : Calls Tryd.prog 18 #[.pointer (some ⟨s.B, 0, none⟩)] w fun e w' => e = .returned (.int .i64 (ks.map (openV s.view)).sum) ∧ Below w.heap.size w w' := by
  have h := hd.loose_is hn (fun k => (hi k).trans (by rw [view_some]))
  rw [openK_view] at h
  rw [← h]
  exact loose_any base s w hd
end
end Go.Proofs.YtfhdcjfkngflbaaDoor
