/-
  disk: the document's example ('awake'). Own work.
-/
import Derived.Test.YtfhdcjfkngflbaaDoorDiskNames
set_option linter.unusedSimpArgs false
set_option linter.unusedVariables false
namespace Go.Proofs.YtfhdcjfkngflbaaDoor
open Go Go.RowKit

def kA : ByteArray := ⟨#[97]⟩
def kB : ByteArray := ⟨#[98]⟩
theorem kAB : kA ≠ kB := by decide
def aw0 : Vw := fun _ => none
def aw1 : Vw := appV aw0 0 kA [1, 2]
def aw2 : Vw := syncV aw1
def aw3 : Vw := appV aw2 1 kB [3]
def aw4 : Vw := appV aw3 2 kA [4, 5]
theorem aw_keys (k : ByteArray) : k ∈ [kA, kB] ↔ (aw4 k).isSome = true := by
  unfold aw4 aw3 aw2 aw1 aw0 appV syncV
  by_cases h1 : k = kA
  · simp [h1]
  · by_cases h2 : k = kB
    · subst h2; simp [kAB.symm]
    · simp [h1, h2]
theorem aw_nodup : [kA, kB].Nodup := by simp [kAB]
theorem aw4_a : aw4 kA = some ([1, 2, 4, 5], [(3, 2)]) := by
  simp [aw4, aw3, aw2, aw1, aw0, appV, syncV, kAB]
theorem aw4_b : aw4 kB = some ([3], [(2, 1)]) := by
  simp [aw4, aw3, aw2, aw1, aw0, appV, syncV, kAB, kAB.symm]
theorem aw4_loose : ([kA, kB].map (openV aw4)).sum = 3 := by
  simp [openV, aw4_a, aw4_b, openOf]
theorem aw4_all : [kA, kB].flatMap (looseV aw4) = [(3, 2), (2, 1)] := by
  simp [looseV, aw4_a, aw4_b]
theorem aw5_a : crashV (leftF [(2, 1), (3, 2)] 2) aw4 kA = some ([1, 2, 4], []) := by
  simp only [crashV, aw4_a, Option.map_some]
  rfl

theorem crashV_open (f : Int → Int) (v : Vw) (k : ByteArray) : openV (crashV f v) k = 0 := by
  unfold openV crashV
  cases v k <;> rfl
theorem crashV_some (f : Int → Int) (v : Vw) (k : ByteArray) : (crashV f v k).isSome = (v k).isSome := by
  unfold crashV
  cases v k <;> rfl
theorem appE_view (s : St) (k : ByteArray) (n : Nat) (hk : nmB k = true) (hl : s.L.length < 64) (hn : n ≤ 1048576) (hv : ∀ p, s.view k = some p → p.1.length + n ≤ 1048576) : appE s k n = none := by
  unfold appE
  rw [if_pos hk]
  cases hr : s.R k with
  | none => simp only; rw [if_neg (by omega), if_neg (by omega)]
  | some r =>
    have := hv (r.data, r.loose) (by unfold St.view; rw [hr]; rfl)
    simp only at this ⊢
    rw [if_neg (by omega), if_neg (by omega)]

/-- A disk at hand: its block, what it holds, its turn, how many files. -/
structure Dk (base : Nat) (w : World) (B : Nat) (v : Vw) (t : Int) (n : Nat) (s : St) : Prop where
  at_ : DiskAt base w s
  B : s.B = B
  view : s.view = v
  turn : s.turn = t
  len : s.L.length = n
  low : base ≤ w.heap.size

section
variable {base : Nat} {w w' : World} {B n : Nat} {v : Vw} {t : Int} {s : St}
theorem Dk.below (h : Dk base w B v t n s) (hb : Below w.heap.size w w') : Dk base w' B v t n s := ⟨h.at_.below hb, h.B, h.view, h.turn, h.len, Nat.le_trans h.low hb.size⟩
theorem Step.dk {v' : Vw} {t' : Int} {n' : Nat} {s' : St} (h : Step base s w v' t' n' s' w') (hB : s.B = B) : Dk base w' B v' t' n' s' := ⟨h.at_, h.B.trans hB, h.view, h.turn, h.len, h.low⟩
theorem dk_new (w : World) : Dk w.heap.size ((w.alloc (.map #[] 0)).alloc (.cells #[.map (some w.heap.size), .int .i64 0] 50)) (w.heap.size + 1) (fun _ => none) 0 0 (newSt w) := ⟨diskAt_new w, rfl, rfl, rfl, rfl, by simp; omega⟩

theorem dk_append (h : Dk base w B v t n s) (k : ByteArray) (A : Option Addr) (m c : Nat) (bs : List UInt8) (hbn : bs.length = m) (hk : nmB k = true) (hks : k.size ≤ 4611686018427387904) (hA : BytesAt w A bs) (hT : t ≤ 4611686018427387904) (hl : n < 64) (hm : m ≤ 1048576) (hv : ∀ p, v k = some p → p.1.length + m ≤ 1048576) :
    Calls Tryd.prog 7 #[.pointer (some ⟨B, 0, none⟩), .string k, .slice A m c] w fun e w' => e = .returned .nilIface ∧ ∃ s', Dk base w' B (appV v t k bs) (t + (if bs = [] then 0 else 1)) (n + (if (v k).isSome then 0 else 1)) s' ∧ Frame s s' w w' ∧ Below base w w' := by
  obtain ⟨h1, h2, h3, h4, h5, h6⟩ := h
  subst h2 h3 h4 h5
  refine (append_step k A m c bs hbn h1 h6 hks hA hT (appE_view s k m hk hl hm hv)).mono ?_
  rintro e w' ⟨rfl, s', hs⟩
  exact ⟨rfl, s', hs.dk rfl, hs.frame, h1.below_of hs.frame h6⟩
theorem dk_sync (h : Dk base w B v t n s) : Calls Tryd.prog 16 #[.pointer (some ⟨B, 0, none⟩)] w fun e w' => e = .returned .nilIface ∧ ∃ s', Dk base w' B (syncV v) t n s' ∧ Frame s s' w w' ∧ Below base w w' := by
  obtain ⟨h1, h2, h3, h4, h5, h6⟩ := h
  subst h2 h3 h4 h5
  refine (sync_step h1 h6).mono ?_
  rintro e w' ⟨rfl, s', hs⟩
  exact ⟨rfl, s', hs.dk rfl, hs.frame, h1.below_of hs.frame h6⟩
theorem dk_loose (h : Dk base w B v t n s) {ks : List ByteArray} (hn : ks.Nodup) (hi : ∀ k, k ∈ ks ↔ (v k).isSome = true) : Calls Tryd.prog 18 #[.pointer (some ⟨B, 0, none⟩)] w fun e w' => e = .returned (.int .i64 (ks.map (openV v)).sum) ∧ Below w.heap.size w w' := by
  obtain ⟨h1, h2, h3, h4, h5, h6⟩ := h
  subst h2 h3
  exact loose_step h1 hn hi
theorem dk_crash (h : Dk base w B v t n s) (keep : Int) (hk : 0 ≤ keep) (hk2 : keep ≤ 9223372036854775807) (hturn : t ≤ 4611686018427387904) {ks : List ByteArray} (hn : ks.Nodup) (hi : ∀ k, k ∈ ks ↔ (v k).isSome = true) (hlo : (ks.map (openV v)).sum ≤ 1000000) : Calls Tryd.prog 17 #[.pointer (some ⟨B, 0, none⟩), .int .i64 keep] w fun e w' => e = .returned .nilIface ∧
    ∃ l' s', l'.Perm (ks.flatMap (looseV v)) ∧ l'.Pairwise (fun a b => a.1 < b.1) ∧ Dk base w' B (crashV (leftF l' keep) v) t n s' ∧ Frame s s' w w' ∧ Below base w w' := by
  obtain ⟨h1, h2, h3, h4, h5, h6⟩ := h
  subst h2 h3 h4 h5
  have e1 := h1.loose_is hn (fun k => (hi k).trans (by rw [view_some]))
  have e2 := h1.all_is_perm hn (fun k => (hi k).trans (by rw [view_some]))
  rw [openK_view] at e1
  rw [looseK_view] at e2
  refine (crash_step keep h1 h6 hk hk2 hturn (by rw [e1]; exact hlo)).mono ?_
  rintro e w' ⟨rfl, l', s', h7, h8, hs⟩
  exact ⟨rfl, l', s', h7.trans e2, h8, hs.dk rfl, hs.frame, h1.below_of hs.frame h6⟩
theorem dk_read (h : Dk base w B v t n s) {k : ByteArray} {p : List UInt8 × List (Int × Int)} (hv : v k = some p) : Calls Tryd.prog 13 #[.pointer (some ⟨B, 0, none⟩), .string k] w fun e w' => ∃ A c, e = .returned (.tuple #[.slice A p.1.length c, .nilIface]) ∧ w'.ownsRow w.heap.size 5 1 (.slice A p.1.length c) p.1.length (byteVs p.1) ∧ Below w.heap.size w w' := by
  obtain ⟨h1, h2, h3, h4, h5, h6⟩ := h
  subst h2 h3
  exact read_step h1 hv
theorem dk_read_miss (h : Dk base w B v t n s) {k : ByteArray} (hv : v k = none) : Calls Tryd.prog 13 #[.pointer (some ⟨B, 0, none⟩), .string k] w fun e w' => e = .returned (.tuple #[.slice none 0 0, .iface 31 (.int .i64 10)]) ∧ w = w' := by
  obtain ⟨h1, h2, h3, h4, h5, h6⟩ := h
  subst h2 h3
  exact read_miss base s k w h1 (view_none hv)
theorem dk_delete (h : Dk base w B v t n s) {k : ByteArray} {p : List UInt8 × List (Int × Int)} (hv : v k = some p) : Calls Tryd.prog 11 #[.pointer (some ⟨B, 0, none⟩), .string k] w fun e w' => e = .returned .nilIface ∧ ∃ s', Dk base w' B (dropV v k) t (n - 1) s' ∧ Frame s s' w w' ∧ Below base w w' := by
  obtain ⟨h1, h2, h3, h4, h5, h6⟩ := h
  subst h2 h3 h4 h5
  refine (delete_step h1 h6 hv).mono ?_
  rintro e w' ⟨rfl, s', hs⟩
  exact ⟨rfl, s', hs.dk rfl, hs.frame, h1.below_of hs.frame h6⟩
theorem dk_delete_miss (h : Dk base w B v t n s) {k : ByteArray} (hv : v k = none) : Calls Tryd.prog 11 #[.pointer (some ⟨B, 0, none⟩), .string k] w fun e w' => e = .returned (.iface 31 (.int .i64 10)) ∧ w = w' := by
  obtain ⟨h1, h2, h3, h4, h5, h6⟩ := h
  subst h2 h3
  exact delete_miss base s k w h1 (view_none hv)
theorem dk_cut (h : Dk base w B v t n s) {k : ByteArray} {p : List UInt8 × List (Int × Int)} (m : Nat) (hv : v k = some p) (hm : m ≤ p.1.length) : Calls Tryd.prog 15 #[.pointer (some ⟨B, 0, none⟩), .string k, .int .i64 m] w fun e w' => e = .returned .nilIface ∧ ∃ s', Dk base w' B (cutVw v k m) t n s' ∧ Frame s s' w w' ∧ Below base w w' := by
  obtain ⟨h1, h2, h3, h4, h5, h6⟩ := h
  subst h2 h3 h4 h5
  refine (cut_step m h1 h6 hv hm).mono ?_
  rintro e w' ⟨rfl, s', hs⟩
  exact ⟨rfl, s', hs.dk rfl, hs.frame, h1.below_of hs.frame h6⟩
end

set_option maxHeartbeats 1000000 in
theorem awake_any (w : World) : Calls Tryd.prog 5 #[] w fun e w' => e = .returned (.bool true) ∧ Below w.heap.size w w' := by
  go_enter Tryd.func5, Tryd.ntmps5
  go_wp2_with fail
  refine (newDisk_any _).mono ?_
  rintro e w' ⟨rfl, rfl⟩
  obtain ⟨w1, hw1⟩ : ∃ w1, w1 = (w.alloc (.map #[] 0)).alloc (.cells #[.map (some w.heap.size), .int .i64 0] 50) := ⟨_, rfl⟩
  have hb1 : Hid (Below w.heap.size w w1) := by rw [hw1]; exact ((Below.refl _ _).alloc (Nat.le_refl _) _).alloc (by simp) _
  have hd1 : Hid (Dk w.heap.size w1 (w.heap.size + 1) aw0 0 0 (newSt w)) := by rw [hw1]; exact dk_new w
  rw [← hw1]
  clear hw1
  go_wp2_with fail
  refine (dk_append (hd1.out.below ((Below.refl _ _).alloc (Nat.le_refl _) _)) kA _ 2 2 [1, 2] rfl (by decide) (by decide) (newbytes w1 [1, 2]) (by decide) (by decide) (by decide) (fun p h => (by cases h))).mono ?_
  rintro e w2 ⟨rfl, s2, hs, _, hb⟩
  have hb2 : Hid (Below w.heap.size w w2) := (hb1.out.trans ((Below.refl _ _).alloc hb1.out.size _)).trans hb
  have hd2 : Hid (Dk w.heap.size w2 (w.heap.size + 1) aw1 1 1 s2) := hs
  clear hb hs hb1 hd1
  go_wp2_with fail
  refine (dk_sync hd2.out).mono ?_
  rintro e w3 ⟨rfl, s3, hs, _, hb⟩
  have hb3 : Hid (Below w.heap.size w w3) := hb2.out.trans hb
  have hd3 : Hid (Dk w.heap.size w3 (w.heap.size + 1) aw2 1 1 s3) := hs
  clear hb hs hb2 hd2
  go_wp2_with fail
  refine (dk_append (hd3.out.below ((Below.refl _ _).alloc (Nat.le_refl _) _)) kB _ 1 1 [3] rfl (by decide) (by decide) (newbytes w3 [3]) (by decide) (by decide) (by decide) (fun p h => (by revert h; simp [aw2, aw1, aw0, syncV, appV, kAB.symm]))).mono ?_
  rintro e w4 ⟨rfl, s4, hs, _, hb⟩
  have hb4 : Hid (Below w.heap.size w w4) := (hb3.out.trans ((Below.refl _ _).alloc hb3.out.size _)).trans hb
  have hd4 : Hid (Dk w.heap.size w4 (w.heap.size + 1) aw3 2 2 s4) := hs
  clear hb hs hb3 hd3
  go_wp2_with fail
  refine (dk_append (hd4.out.below ((Below.refl _ _).alloc (Nat.le_refl _) _)) kA _ 2 2 [4, 5] rfl (by decide) (by decide) (newbytes w4 [4, 5]) (by decide) (by decide) (by decide) (fun p h => (by
    have e : aw3 kA = some ([1, 2], []) := by simp [aw3, aw2, aw1, aw0, syncV, appV, kAB]
    rw [e] at h; cases h; decide))).mono ?_
  rintro e w5 ⟨rfl, s5, hs, _, hb⟩
  have hb5 : Hid (Below w.heap.size w w5) := (hb4.out.trans ((Below.refl _ _).alloc hb4.out.size _)).trans hb
  have hd5 : Hid (Dk w.heap.size w5 (w.heap.size + 1) aw4 3 2 s5) := hs
  clear hb hs hb4 hd4
  have hl5 := dk_loose hd5.out aw_nodup aw_keys
  rw [aw4_loose] at hl5
  have HL5 := Lib.hid hl5
  clear hl5
  go_wp2_with fail
  refine HL5.out.mono ?_
  rintro e w6 ⟨rfl, hb⟩
  have hb6 : Hid (Below w.heap.size w w6) := hb5.out.trans (hb.mono hb5.out.size)
  have hd6 : Hid (Dk w.heap.size w6 (w.heap.size + 1) aw4 3 2 s5) := hd5.out.below hb
  clear hb hb5 hd5 HL5
  go_wp2_with fail
  refine (dk_crash hd6.out 2 (by decide) (by decide) (by decide) aw_nodup aw_keys (by rw [aw4_loose]; decide)).mono ?_
  rintro e w7 ⟨rfl, l', s7, hp, hpw, hs, _, hb⟩
  have hl' : l' = [(2, 1), (3, 2)] := by
    refine sorted_one (hp.trans ?_) hpw (by simp)
    rw [aw4_all]
    exact List.Perm.swap _ _ _
  subst hl'
  have hb7 : Hid (Below w.heap.size w w7) := hb6.out.trans hb
  have hd7 : Hid (Dk w.heap.size w7 (w.heap.size + 1) (crashV (leftF [(2, 1), (3, 2)] 2) aw4) 3 2 s7) := hs
  clear hb hs hb6 hd6 hp hpw
  go_wp2_with fail
  refine (dk_read hd7.out aw5_a).mono ?_
  rintro e w8 ⟨A, c, rfl, hrow, hb⟩
  have hb8 : Hid (Below w.heap.size w w8) := hb7.out.trans (hb.mono hb7.out.size)
  have hd8 : Hid (Dk w.heap.size w8 (w.heap.size + 1) (crashV (leftF [(2, 1), (3, 2)] 2) aw4) 3 2 s7) := hd7.out.below hb
  have hA8 : Hid (BytesAt w8 A [1, 2, 4]) := BytesAt.of_own hrow
  clear hb hb7 hd7 hrow
  have hl9 := fun (W : World) (hW : Dk w.heap.size W (w.heap.size + 1) (crashV (leftF [(2, 1), (3, 2)] 2) aw4) 3 2 s7) => dk_loose hW aw_nodup (fun k => (aw_keys k).trans (by rw [crashV_some]))
  have e9 : ([kA, kB].map (openV (crashV (leftF [(2, 1), (3, 2)] 2) aw4))).sum = 0 := by simp [crashV_open]
  rw [e9] at hl9
  have HL9 := Lib.hid hl9
  clear hl9 e9
  simp only [List.length_cons, List.length_nil, Nat.reduceAdd]
  go_wp2_with (first
    | (go_at_call 14; refine (bytes_any A _ [1, 2, 4] [1, 2, 4] c 3 _ (hA8.out.below ((Below.refl _ _).alloc (Nat.le_refl _) _)) (newbytes w8 [1, 2, 4])).mono ?_; rintro e w9 ⟨rfl, rfl⟩)
    | (go_at_call 18; refine (HL9.out _ (hd8.out.below ((Below.refl _ _).alloc (Nat.le_refl _) _))).mono ?_; rintro e w9 ⟨rfl, hb9⟩))
  go_ret
  exact ⟨rfl, (hb8.out.trans ((Below.refl _ _).alloc hb8.out.size _)).trans (hb9.mono (Nat.le_trans hb8.out.size (by simp)))⟩
end Go.Proofs.YtfhdcjfkngflbaaDoor
