/-
  disk: what the laws want: Bytes, an Append that goes through, sums over the files. Own work.
-/
import Derived.Test.YtfhdcjfkngflbaaDoorDiskKeys
import Derived.Laws.IdiomStrings
import Derived.Lib.BufferRead
import Derived.WalkSpells
set_option linter.unusedSimpArgs false
set_option linter.unusedVariables false
namespace Go.Proofs.YtfhdcjfkngflbaaDoor
open Go Go.RowKit

theorem conv_bytes (A : Option Addr) (bs : List UInt8) (c : Nat) (w : World) (h : BytesAt w A bs) : (convert 28 9 (.slice A bs.length c)).run Tryd.prog w = .ok (.string ⟨bs.toArray⟩) w := by
  cases A with
  | none =>
    have h0 := h.1 rfl
    rw [h0, List.eq_nil_of_length_eq_zero h0]
    exact Lib.run_convert_nil_bytes w _ _ _ c Tryd.underlying28 Tryd.underlying5 Tryd.underlying9
  | some ad =>
    refine run_convert_bytes_back w _ _ _ ad c bs Tryd.underlying28 Tryd.underlying5 Tryd.underlying9 fun j hj => ?_
    exact h.2 ad rfl j _ (by simp [byteVs, byteV, hj])

theorem bytes_any (A A' : Option Addr) (bs bs' : List UInt8) (c c' : Nat) (w : World) (h : BytesAt w A bs) (h' : BytesAt w A' bs') :
    Calls Tryd.prog 14 #[.slice A bs.length c, .slice A' bs'.length c'] w fun e w' => e = .returned (.bool (decide (bs = bs'))) ∧ w = w' := by
  have e1 := conv_bytes A bs c w h
  have e2 := conv_bytes A' bs' c' w h'
  go_enter Tryd.func14, Tryd.ntmps14
  go_wp2
  go_ret
  exact ⟨congrArg (fun b => Ending.returned (.bool b)) (by rw [Bool.eq_iff_iff]; simp), rfl⟩

theorem BytesAt.of_own {w : World} {base : Nat} {A : Option Addr} {n c : Nat} {bs : List UInt8} (h : w.ownsRow base 5 1 (.slice A n c) n (byteVs bs)) : BytesAt w A bs := by
  have hl : bs.length = n := by have := h.1; simpa [byteVs] using this
  rcases h.2 with ⟨hv, hn⟩ | ⟨g, cap, cur, hv, hb, hh, h1, h2, h3, h4⟩
  · injection hv with hA _ _
    subst hA
    exact ⟨fun _ => (by omega), fun ad e => (by cases e)⟩
  · injection hv with hA _ _
    subst hA
    refine ⟨fun e => (by cases e), fun ad e j u hu => ?_⟩
    cases e
    have hj : j < bs.length := by have := (List.getElem?_eq_some_iff.1 hu).1; simpa [byteVs] using this
    have e2 : w.cell? ⟨g, j, none⟩ = cur[j]? := by simp [World.cell?, hh]
    rw [Addr.add_lit, Nat.zero_add, e2, ← hu, ← h4, List.getElem?_take, if_pos (by omega)]; simp

/-- Bytes written out, in a new block. -/
theorem newbytes (w : World) (bs : List UInt8) : BytesAt (w.alloc (.cells (byteVs bs).toArray 5)) (some ⟨w.heap.size, 0, none⟩) bs := by
  refine ⟨fun h => (by cases h), fun ad e j u hu => ?_⟩
  cases e
  rw [Addr.add_lit, Nat.zero_add]
  have hh := heap_alloc_new w (.cells (byteVs bs).toArray 5)
  have : (w.alloc (.cells (byteVs bs).toArray 5)).cell? ⟨w.heap.size, j, none⟩ = (byteVs bs).toArray[j]? := by unfold World.cell?; simp only; rw [hh]; rfl
  rw [this]; simpa using hu

theorem append_ok (base : Nat) (s : St) (k : ByteArray) (A : Option Addr) (n c : Nat) (bs : List UInt8) (hbn : bs.length = n) (w : World) (hd : DiskAt base w s) (hlow : base ≤ w.heap.size) (hk : k.size ≤ 4611686018427387904) (hA : BytesAt w A bs) (hT : s.turn ≤ 4611686018427387904) (happ : appE s k n = none) :
    Calls Tryd.prog 7 #[.pointer (some ⟨s.B, 0, none⟩), .string k, .slice A n c] w fun e w' => e = .returned .nilIface ∧ ∃ s', AppOK base s k bs w s' w' := by
  refine (append_any base s k A n c bs hbn w hd hlow hk hA hT).mono ?_
  rintro e w' ⟨rfl, h⟩
  rw [happ] at h ⊢
  rcases h with ⟨h, _⟩ | ⟨_, h⟩
  · exact absurd rfl h
  · exact ⟨rfl, h⟩

section
variable {base : Nat} {w : World} {s : St}
/-- The map's keys are just the files' names. -/
theorem DiskAt.keys_iff (h : DiskAt base w s) (k : ByteArray) : k ∈ s.L.map MEnt.k ↔ (s.R k).isSome = true := by
  constructor
  · intro hk
    obtain ⟨e, he, rfl⟩ := List.mem_map.1 hk
    obtain ⟨r, hr, _⟩ := h.mem he
    rw [hr]; rfl
  · intro hk
    cases hr : s.R k with
    | none => rw [hr] at hk; cases hk
    | some r =>
      have h8 := h.lk k
      rw [hr] at h8
      obtain ⟨e, he, hk, _⟩ := lkV_mem h8
      exact List.mem_map.2 ⟨e, he, hk⟩
theorem DiskAt.keys_perm (h : DiskAt base w s) {ks : List ByteArray} (hn : ks.Nodup) (hi : ∀ k, k ∈ ks ↔ (s.R k).isSome = true) : (s.L.map MEnt.k).Perm ks :=
  (List.perm_ext_iff_of_nodup h.wf.keys hn).2 fun k => (h.keys_iff k).trans (hi k).symm
theorem sumK_keys (s : St) (dn : List (MEnt ByteArray)) : sumK s dn = ((dn.map MEnt.k).map (openK s)).sum := by simp [sumK, Function.comp_def]
theorem allOf_keys (s : St) (dn : List (MEnt ByteArray)) : allOf s dn = (dn.map MEnt.k).flatMap (looseK s) := by simp [allOf, List.flatMap_map]
theorem sum_perm {l l' : List Int} (h : l.Perm l') : l.sum = l'.sum := by
  induction h with
  | nil => rfl
  | cons x _ ih => simp [ih]
  | swap x y l => simp; omega
  | trans _ _ h1 h2 => exact h1.trans h2
theorem DiskAt.loose_is (h : DiskAt base w s) {ks : List ByteArray} (hn : ks.Nodup) (hi : ∀ k, k ∈ ks ↔ (s.R k).isSome = true) : looseOf s = (ks.map (openK s)).sum := by
  unfold looseOf
  rw [sumK_keys]
  exact sum_perm ((h.keys_perm hn hi).map _)
theorem DiskAt.all_is_perm (h : DiskAt base w s) {ks : List ByteArray} (hn : ks.Nodup) (hi : ∀ k, k ∈ ks ↔ (s.R k).isSome = true) : (allOf s s.L).Perm (ks.flatMap (looseK s)) := by
  rw [allOf_keys]
  exact (h.keys_perm hn hi).flatMap_right _
/-- No loose bytes at all. -/
theorem loose_zero (h : ∀ k r, s.R k = some r → r.loose = []) : looseOf s = 0 := by
  unfold looseOf sumK
  generalize s.L = L
  induction L with
  | nil => rfl
  | cons e L ih =>
    have : openK s e.k = 0 := by
      unfold openK
      cases hr : s.R e.k with
      | none => rfl
      | some r => simp only; rw [h _ r hr]; rfl
    simp only [List.map_cons, List.sum_cons, this]
    omega
/-- Pieces sorted by turns are one list. -/
theorem sorted_one {l m : List (Int × Int)} (hp : l.Perm m) (hl : l.Pairwise (fun a b => a.1 < b.1)) (hm : m.Pairwise (fun a b => a.1 < b.1)) : l = m := by
  refine List.Perm.eq_of_pairwise (le := fun a b => a.1 < b.1) (fun a b _ _ h1 h2 => ?_) hl hm hp
  omega
end
end Go.Proofs.YtfhdcjfkngflbaaDoor
