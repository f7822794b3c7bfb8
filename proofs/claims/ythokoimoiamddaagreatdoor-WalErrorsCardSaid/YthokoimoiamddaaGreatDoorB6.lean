/-
  disk: Names. Own work (the last lines after the kit's lay-iter).
  disk: a disk at hand. Own work.
  disk: two disks beside one another. Own work.
  disk: the plain law of DiskPrefix: what a crash loses is what was loose, less what is kept. Own work.
-/
import Derived.Test.YthokoimoiamddaaGreatDoorB5
import Derived.Test.YthokoimoiamddaaGreatDoorNames
set_option linter.unusedSimpArgs false
set_option linter.unusedVariables false
namespace Go.Proofs.YthokoimoiamddaaGreatDoor
open Go Go.RowKit Go.Sort Go.Shelf

theorem cell_new0 (w : World) (v : Value) (t : TypeId) : (w.alloc (.cells #[v] t)).cell? ⟨w.heap.size, 0, none⟩ = some v := by
  have hh := heap_alloc_new w (.cells #[v] t)
  unfold World.cell?
  simp only
  rw [hh]; rfl
theorem names_sorts (m : Nat) : AnyZ.SortsIn Tryz.prog Tryz.namesSorted_ren Fence.wide m :=
  ⟨fun blk off cap ss W hH hblk hsz => callsIn_wide.2 (AnyM.slices_Sort_string Tryz.namesSort blk off cap ss W hH hblk hsz),
   fun p cap W => callsIn_wide.2 (AnyM.slices_Sort_string_none Tryz.namesSort p cap W)⟩

set_option maxHeartbeats 1000000 in
theorem dkeys_any (mb : Option Nat) (w : World) :
    CallsIn Fence.wide 5 Tryz.prog 36 #[.map mb] w fun e w' => e = .returned (.func (.func 57) #[] #[.pointer (some ⟨w.heap.size, 0, none⟩)]) ∧ w' = w.alloc (.cells #[.map mb] 58) := by
  refine callsIn_of_wp Tryz.func36 rfl trivial ?_ rfl
  simp only [Tryz.ntmps36, List.size_toArray, List.length_cons, List.length_nil, Nat.reduceAdd, Nat.reduceSub, Array.replicate_succ, Array.replicate_zero, List.push_toArray, List.append_toArray, List.nil_append, List.cons_append]
  gi_wp2
  go_ret
  exact ⟨rfl, rfl⟩

set_option maxHeartbeats 1000000 in
theorem sorted_keys (b c : Nat) (L : List (MEnt ByteArray)) (w : World) (hat : MapAt Value.string w b L c) (hwf : MWf L c) (hl : L.length ≤ 1000000) :
    CallsIn Fence.wide 5 Tryz.prog 35 #[.func (.func 57) #[] #[.pointer (some ⟨w.heap.size, 0, none⟩)]] (w.alloc (.cells #[.map (some b)] 58)) fun e w' => ∃ (v : Value) (ss : List (List UInt8)), e = .returned v ∧ ss.Perm (L.map keyB) ∧
      w'.ownsRow (w.alloc (.cells #[.map (some b)] 58)).heap.size 9 1 v ss.length ((ss.mergeSort (fun x y => decide (x ≤ y))).map encStr) ∧ (v = .slice none 0 0 ↔ ss = []) ∧ Below (w.alloc (.cells #[.map (some b)] 58)).heap.size (w.alloc (.cells #[.map (some b)] 58)) w' := by
  have hseq : SeqGives Fence.wide 2 Tryz.prog 57 #[.pointer (some ⟨w.heap.size, 0, none⟩)] encStr (fun ss => ss.Perm (L.map keyB)) L.length (w.alloc (.cells #[.map (some b)] 58)) :=
    dkeys_gives Fence.wide 2 trivial rfl (by omega) w.heap.size b c L _ (by simp) (cell_new0 w _ _) (hat.alloc _) hwf
  exact AnyZ.sorted_in Tryz.namesSorted Fence.wide 5 trivial trivial trivial trivial rfl (by omega) (names_sorts _) (enters_of Tryz.func56 (by kernel_rfl) rfl) 57 #[.pointer (some ⟨w.heap.size, 0, none⟩)] trivial (enters_of Tryz.func57 (by kernel_rfl) rfl) _ _ (Nat.le_trans hl (by decide)) (by omega) _ hseq

theorem names_nil (w : World) : Calls Tryz.prog 22 #[.pointer none] w fun e w' => e = .returned (.slice none 0 0) ∧ w = w' := by
  go_enter Tryz.func22, Tryz.ntmps22
  go_wp2
  go_ret
  exact ⟨rfl, rfl⟩

set_option maxHeartbeats 1000000 in
theorem names_any (base : Nat) (s : St) (w : World) (h : DiskAt base w s) : Calls Tryz.prog 22 #[.pointer (some ⟨s.B, 0, none⟩)] w fun e w' => ∃ (v : Value) (ss : List (List UInt8)), e = .returned v ∧ ss.Perm (s.L.map keyB) ∧
      w'.ownsRow w.heap.size 9 1 v ss.length ((ss.mergeSort (fun x y => decide (x ≤ y))).map encStr) ∧ Below w.heap.size w w' := by
  obtain ⟨c0, _, _⟩ := h.cells
  have HM := Lib.hid h.map
  have HW := Lib.hid h.wf
  have HL : Hid (s.L.length ≤ 1000000) := Nat.le_trans h.few (by decide)
  clear h
  refine (callsIn_wide (n := 6)).1 ?_
  have hfK : Fence.wide.fn 36 := trivial
  have hfS : Fence.wide.fn 35 := trivial
  refine callsIn_of_wp Tryz.func22 rfl trivial ?_ rfl
  simp only [Tryz.ntmps22, List.size_toArray, List.length_cons, List.length_nil, Nat.reduceAdd, Nat.reduceSub, Array.replicate_succ, Array.replicate_zero, List.push_toArray, List.append_toArray, List.nil_append, List.cons_append]
  gi_wp2_with (first
    | (gi_at_call 36; refine (dkeys_any _ _).mono ?_; rintro e w' ⟨rfl, rfl⟩)
    | (gi_at_call 35; refine (sorted_keys s.M s.c s.L w HM.out HW.out HL.out).mono ?_; rintro e w' ⟨v, ss, rfl, hS, hrow, hnil, hb⟩))
  go_ret
  exact ⟨v, ss, rfl, hS, ownsRow_base_a hrow (by simp), ((Below.refl _ w).alloc (Nat.le_refl _) _).trans (hb.mono (by simp))⟩
end Go.Proofs.YthokoimoiamddaaGreatDoor
set_option linter.unusedSimpArgs false
set_option linter.unusedVariables false
namespace Go.Proofs.YthokoimoiamddaaGreatDoor
open Go Go.RowKit

def kA : ByteArray := ⟨#[97]⟩
def kB : ByteArray := ⟨#[98]⟩
theorem kAB : kA ≠ kB := by decide
def aw0 : Vw := fun _ => none
def aw1 : Vw := appV aw0 0 kA [1, 2]
def aw2 : Vw := syncV aw1
def aw3 : Vw := appV aw2 1 kB [3]
def aw4 : Vw := appV aw3 2 kA [4, 5]
theorem aw_keys (k : ByteArray) : k ∈ [kA, kB] ↔ (aw4 k).isSome = true := by
  unfold aw4 aw3 aw2 aw1 aw0 appV syncV
  by_cases h1 : k = kA
  · simp [h1]
  · by_cases h2 : k = kB
    · subst h2; simp [kAB.symm]
    · simp [h1, h2]
theorem aw_nodup : [kA, kB].Nodup := by simp [kAB]
theorem aw4_a : aw4 kA = some ([1, 2, 4, 5], [(3, 2)]) := by
  simp [aw4, aw3, aw2, aw1, aw0, appV, syncV, kAB]
theorem aw4_b : aw4 kB = some ([3], [(2, 1)]) := by
  simp [aw4, aw3, aw2, aw1, aw0, appV, syncV, kAB, kAB.symm]
theorem aw4_loose : ([kA, kB].map (openV aw4)).sum = 3 := by
  simp [openV, aw4_a, aw4_b, openOf]
theorem aw4_all : [kA, kB].flatMap (looseV aw4) = [(3, 2), (2, 1)] := by
  simp [looseV, aw4_a, aw4_b]
theorem aw5_a : crashV (leftF [(2, 1), (3, 2)] 2) aw4 kA = some ([1, 2, 4], []) := by
  simp only [crashV, aw4_a, Option.map_some]
  rfl

theorem crashV_open (f : Int → Int) (v : Vw) (k : ByteArray) : openV (crashV f v) k = 0 := by
  unfold openV crashV
  cases v k <;> rfl
theorem crashV_some (f : Int → Int) (v : Vw) (k : ByteArray) : (crashV f v k).isSome = (v k).isSome := by
  unfold crashV
  cases v k <;> rfl
theorem appE_view (s : St) (k : ByteArray) (n : Nat) (hk : nmB k = true) (hl : s.L.length < 64) (hn : n ≤ 1048576) (hv : ∀ p, s.view k = some p → p.1.length + n ≤ 1048576) : appE s k n = none := by
  unfold appE
  rw [if_pos hk]
  cases hr : s.R k with
  | none => simp only; rw [if_neg (by omega), if_neg (by omega)]
  | some r =>
    have := hv (r.data, r.loose) (by unfold St.view; rw [hr]; rfl)
    simp only at this ⊢
    rw [if_neg (by omega), if_neg (by omega)]

/-- A disk at hand: its block, what it holds, its turn, how many files. -/
structure Dk (base : Nat) (w : World) (B : Nat) (v : Vw) (t : Int) (n : Nat) (s : St) : Prop where
  at_ : DiskAt base w s
  B : s.B = B
  view : s.view = v
  turn : s.turn = t
  len : s.L.length = n
  low : base ≤ w.heap.size

section
variable {base : Nat} {w w' : World} {B n : Nat} {v : Vw} {t : Int} {s : St}
theorem Dk.below (h : Dk base w B v t n s) (hb : Below w.heap.size w w') : Dk base w' B v t n s := ⟨h.at_.below hb, h.B, h.view, h.turn, h.len, Nat.le_trans h.low hb.size⟩
theorem Step.dk {v' : Vw} {t' : Int} {n' : Nat} {s' : St} (h : Step base s w v' t' n' s' w') (hB : s.B = B) : Dk base w' B v' t' n' s' := ⟨h.at_, h.B.trans hB, h.view, h.turn, h.len, h.low⟩
theorem dk_new (w : World) : Dk w.heap.size ((w.alloc (.map #[] 0)).alloc (.cells #[.map (some w.heap.size), .int .i64 0] 60)) (w.heap.size + 1) (fun _ => none) 0 0 (newSt w) := ⟨diskAt_new w, rfl, rfl, rfl, rfl, by simp; omega⟩

theorem dk_append (h : Dk base w B v t n s) (k : ByteArray) (A : Option Addr) (m c : Nat) (bs : List UInt8) (hbn : bs.length = m) (hk : nmB k = true) (hks : k.size ≤ 4611686018427387904) (hA : BytesAt w A bs) (hT : t ≤ 4611686018427387904) (hl : n < 64) (hm : m ≤ 1048576) (hv : ∀ p, v k = some p → p.1.length + m ≤ 1048576) :
    Calls Tryz.prog 48 #[.pointer (some ⟨B, 0, none⟩), .string k, .slice A m c] w fun e w' => e = .returned .nilIface ∧ ∃ s', Dk base w' B (appV v t k bs) (t + (if bs = [] then 0 else 1)) (n + (if (v k).isSome then 0 else 1)) s' ∧ Frame s s' w w' ∧ Below base w w' := by
  obtain ⟨h1, h2, h3, h4, h5, h6⟩ := h
  subst h2 h3 h4 h5
  refine (append_step k A m c bs hbn h1 h6 hks hA hT (appE_view s k m hk hl hm hv)).mono ?_
  rintro e w' ⟨rfl, s', hs⟩
  exact ⟨rfl, s', hs.dk rfl, hs.frame, h1.below_of hs.frame h6⟩
theorem dk_sync (h : Dk base w B v t n s) : Calls Tryz.prog 28 #[.pointer (some ⟨B, 0, none⟩)] w fun e w' => e = .returned .nilIface ∧ ∃ s', Dk base w' B (syncV v) t n s' ∧ Frame s s' w w' ∧ Below base w w' := by
  obtain ⟨h1, h2, h3, h4, h5, h6⟩ := h
  subst h2 h3 h4 h5
  refine (sync_step h1 h6).mono ?_
  rintro e w' ⟨rfl, s', hs⟩
  exact ⟨rfl, s', hs.dk rfl, hs.frame, h1.below_of hs.frame h6⟩
theorem dk_loose (h : Dk base w B v t n s) {ks : List ByteArray} (hn : ks.Nodup) (hi : ∀ k, k ∈ ks ↔ (v k).isSome = true) : Calls Tryz.prog 54 #[.pointer (some ⟨B, 0, none⟩)] w fun e w' => e = .returned (.int .i64 (ks.map (openV v)).sum) ∧ Below w.heap.size w w' := by
  obtain ⟨h1, h2, h3, h4, h5, h6⟩ := h
  subst h2 h3
  exact loose_step h1 hn hi
theorem dk_crash (h : Dk base w B v t n s) (keep : Int) (hk : 0 ≤ keep) (hk2 : keep ≤ 9223372036854775807) (hturn : t ≤ 4611686018427387904) {ks : List ByteArray} (hn : ks.Nodup) (hi : ∀ k, k ∈ ks ↔ (v k).isSome = true) (hlo : (ks.map (openV v)).sum ≤ 1000000) : Calls Tryz.prog 23 #[.pointer (some ⟨B, 0, none⟩), .int .i64 keep] w fun e w' => e = .returned .nilIface ∧
    ∃ l' s', l'.Perm (ks.flatMap (looseV v)) ∧ l'.Pairwise (fun a b => a.1 < b.1) ∧ Dk base w' B (crashV (leftF l' keep) v) t n s' ∧ Frame s s' w w' ∧ Below base w w' := by
  obtain ⟨h1, h2, h3, h4, h5, h6⟩ := h
  subst h2 h3 h4 h5
  have e1 := h1.loose_is hn (fun k => (hi k).trans (by rw [view_some]))
  have e2 := h1.all_is_perm hn (fun k => (hi k).trans (by rw [view_some]))
  rw [openK_view] at e1
  rw [looseK_view] at e2
  refine (crash_step keep h1 h6 hk hk2 hturn (by rw [e1]; exact hlo)).mono ?_
  rintro e w' ⟨rfl, l', s', h7, h8, hs⟩
  exact ⟨rfl, l', s', h7.trans e2, h8, hs.dk rfl, hs.frame, h1.below_of hs.frame h6⟩
theorem dk_read (h : Dk base w B v t n s) {k : ByteArray} {p : List UInt8 × List (Int × Int)} (hv : v k = some p) : Calls Tryz.prog 41 #[.pointer (some ⟨B, 0, none⟩), .string k] w fun e w' => ∃ A c, e = .returned (.tuple #[.slice A p.1.length c, .nilIface]) ∧ w'.ownsRow w.heap.size 5 1 (.slice A p.1.length c) p.1.length (byteVs p.1) ∧ Below w.heap.size w w' := by
  obtain ⟨h1, h2, h3, h4, h5, h6⟩ := h
  subst h2 h3
  exact read_step h1 hv
theorem dk_read_miss (h : Dk base w B v t n s) {k : ByteArray} (hv : v k = none) : Calls Tryz.prog 41 #[.pointer (some ⟨B, 0, none⟩), .string k] w fun e w' => e = .returned (.tuple #[.slice none 0 0, .iface 42 (.int .i64 10)]) ∧ w = w' := by
  obtain ⟨h1, h2, h3, h4, h5, h6⟩ := h
  subst h2 h3
  exact read_miss base s k w h1 (view_none hv)
theorem dk_delete (h : Dk base w B v t n s) {k : ByteArray} {p : List UInt8 × List (Int × Int)} (hv : v k = some p) : Calls Tryz.prog 29 #[.pointer (some ⟨B, 0, none⟩), .string k] w fun e w' => e = .returned .nilIface ∧ ∃ s', Dk base w' B (dropV v k) t (n - 1) s' ∧ Frame s s' w w' ∧ Below base w w' := by
  obtain ⟨h1, h2, h3, h4, h5, h6⟩ := h
  subst h2 h3 h4 h5
  refine (delete_step h1 h6 hv).mono ?_
  rintro e w' ⟨rfl, s', hs⟩
  exact ⟨rfl, s', hs.dk rfl, hs.frame, h1.below_of hs.frame h6⟩
theorem dk_delete_miss (h : Dk base w B v t n s) {k : ByteArray} (hv : v k = none) : Calls Tryz.prog 29 #[.pointer (some ⟨B, 0, none⟩), .string k] w fun e w' => e = .returned (.iface 42 (.int .i64 10)) ∧ w = w' := by
  obtain ⟨h1, h2, h3, h4, h5, h6⟩ := h
  subst h2 h3
  exact delete_miss base s k w h1 (view_none hv)
theorem dk_cut (h : Dk base w B v t n s) {k : ByteArray} {p : List UInt8 × List (Int × Int)} (m : Nat) (hv : v k = some p) (hm : m ≤ p.1.length) : Calls Tryz.prog 44 #[.pointer (some ⟨B, 0, none⟩), .string k, .int .i64 m] w fun e w' => e = .returned .nilIface ∧ ∃ s', Dk base w' B (cutVw v k m) t n s' ∧ Frame s s' w w' ∧ Below base w w' := by
  obtain ⟨h1, h2, h3, h4, h5, h6⟩ := h
  subst h2 h3 h4 h5
  refine (cut_step m h1 h6 hv hm).mono ?_
  rintro e w' ⟨rfl, s', hs⟩
  exact ⟨rfl, s', hs.dk rfl, hs.frame, h1.below_of hs.frame h6⟩
end

end Go.Proofs.YthokoimoiamddaaGreatDoor
set_option linter.unusedSimpArgs false
set_option linter.unusedVariables false
namespace Go.Proofs.YthokoimoiamddaaGreatDoor
open Go Go.RowKit

theorem bdrewN {B : Nat} {a w : World} (h : Below B a w) (n : Nat) : Below B a (w.drewN n) := ⟨h.os, h.tape, h.output, h.size, h.block⟩
def Far (s o : St) : Prop := ∀ g, s.own g → ¬ o.own g
section
variable {base : Nat} {w w' : World} {B n B2 n2 : Nat} {v v2 : Vw} {t t2 : Int} {s s' o : St}
theorem Far.symm (h : Far s o) : Far o s := fun g h1 h2 => h g h2 h1
theorem Far.step (h : Far s o) (hf : Frame s s' w w') (ho : ∀ g, o.own g → g < w.heap.size) : Far s' o := fun g hg h2 => by
  rcases hf.own g hg with h3 | h3
  · exact h g h3 h2
  · have := ho g h2; omega
theorem Dk.beside (h : Dk base w B v t n o) (hf : Frame s s' w w') (hs : Far s o) : Dk base w' B v t n o :=
  ⟨h.at_.keep fun g hg => hf.block g (h.at_.lt hg) (fun h2 => hs g h2 hg), h.B, h.view, h.turn, h.len, Nat.le_trans h.low hf.size⟩
theorem Dk.mono {base' : Nat} (h : Dk base w B v t n s) (hb : base' ≤ base) : Dk base' w B v t n s :=
  ⟨{ h.at_ with low := fun g hg => Nat.le_trans hb (h.at_.low g hg) }, h.B, h.view, h.turn, h.len, Nat.le_trans hb h.low⟩

/-- A box beside the disks, whose contents are known. -/
def BoxIs (bx : Option (Nat × Obj)) (w : World) (s o : St) : Prop := ∀ g ob, bx = some (g, ob) → w.heap[g]? = some ob ∧ ¬ s.own g ∧ ¬ o.own g
theorem BoxIs.lt {bx : Option (Nat × Obj)} (h : BoxIs bx w s o) {g : Nat} {ob : Obj} (e : bx = some (g, ob)) : g < w.heap.size := (Array.getElem?_eq_some_iff.1 (h g ob e).1).1
/-- Two disks at hand, apart. -/
def Two (bx : Option (Nat × Obj)) (base : Nat) (w : World) (B : Nat) (v : Vw) (t : Int) (n : Nat) (B2 : Nat) (v2 : Vw) (t2 : Int) (n2 : Nat) : Prop :=
  ∃ s o, Dk base w B v t n s ∧ Dk base w B2 v2 t2 n2 o ∧ Far s o ∧ BoxIs bx w s o
variable {bx : Option (Nat × Obj)}
theorem Two.swap (h : Two bx base w B v t n B2 v2 t2 n2) : Two bx base w B2 v2 t2 n2 B v t n := by
  obtain ⟨s, o, h1, h2, h3, h4⟩ := h
  exact ⟨o, s, h2, h1, h3.symm, fun g ob e => ⟨(h4 g ob e).1, (h4 g ob e).2.2, (h4 g ob e).2.1⟩⟩
theorem Two.below (h : Two bx base w B v t n B2 v2 t2 n2) (hb : Below w.heap.size w w') : Two bx base w' B v t n B2 v2 t2 n2 := by
  obtain ⟨s, o, h1, h2, h3, h4⟩ := h
  exact ⟨s, o, h1.below hb, h2.below hb, h3, fun g ob e => ⟨(hb.block g (h4.lt e)).trans (h4 g ob e).1, (h4 g ob e).2⟩⟩
theorem Two.one (h : Two bx base w B v t n B2 v2 t2 n2) : ∃ s, Dk base w B v t n s := by
  obtain ⟨s, o, h1, h2, h3, h4⟩ := h
  exact ⟨s, h1⟩
theorem Two.low (h : Two bx base w B v t n B2 v2 t2 n2) : base ≤ w.heap.size := by
  obtain ⟨s, h⟩ := h.one
  exact h.low
theorem Two.box {g : Nat} {ob : Obj} (h : Two (some (g, ob)) base w B v t n B2 v2 t2 n2) : w.heap[g]? = some ob := by
  obtain ⟨s, o, h1, h2, h3, h4⟩ := h
  exact (h4 g ob rfl).1
theorem Two.drop (h : Two bx base w B v t n B2 v2 t2 n2) : Two none base w B v t n B2 v2 t2 n2 := by
  obtain ⟨s, o, h1, h2, h3, h4⟩ := h
  exact ⟨s, o, h1, h2, h3, fun g ob e => by cases e⟩
theorem Two.put (h : Two bx base w B v t n B2 v2 t2 n2) (ob : Obj) : Two (some (w.heap.size, ob)) base (w.alloc ob) B v t n B2 v2 t2 n2 := by
  obtain ⟨s, o, h1, h2, h3, h4⟩ := h
  have hb : Below w.heap.size w (w.alloc ob) := (Below.refl _ _).alloc (Nat.le_refl _) _
  refine ⟨s, o, h1.below hb, h2.below hb, h3, fun g ob' e => ?_⟩
  simp only [Option.some.injEq, Prod.mk.injEq] at e
  obtain ⟨rfl, rfl⟩ := e
  exact ⟨heap_alloc_new _ _, fun hg => by have := h1.at_.lt hg; omega, fun hg => by have := h2.at_.lt hg; omega⟩
theorem Two.lift {f : FuncId} {args : Array Value} {E : Ending} {v1 : Vw} {t1 : Int} {n1 : Nat} (h : Two bx base w B v t n B2 v2 t2 n2)
    (hc : ∀ s, Dk base w B v t n s → Calls Tryz.prog f args w fun e w' => e = E ∧ ∃ s', Dk base w' B v1 t1 n1 s' ∧ Frame s s' w w' ∧ Below base w w') :
    Calls Tryz.prog f args w fun e w' => e = E ∧ Two bx base w' B v1 t1 n1 B2 v2 t2 n2 ∧ Below base w w' := by
  obtain ⟨s, o, h1, h2, h3, h3b⟩ := h
  refine (hc s h1).mono ?_
  rintro e w' ⟨rfl, s', h4, h5, h6⟩
  refine ⟨rfl, ⟨s', o, h4, h2.beside h5 h3, h3.step h5 fun g hg => h2.at_.lt hg, fun g ob e => ?_⟩, h6⟩
  have hlt := h3b.lt e
  obtain ⟨a1, a2, a3⟩ := h3b g ob e
  refine ⟨(h5.block g hlt a2).trans a1, fun hg => ?_, a3⟩
  rcases h5.own g hg with h | h
  · exact a2 h
  · omega
theorem two_new (w w1 : World) (B : Nat) (v : Vw) (t : Int) (n : Nat) (s : St) (h : Dk base w B v t n s) :
    Two none base ((w.alloc (.map #[] 0)).alloc (.cells #[.map (some w.heap.size), .int .i64 0] 60)) B v t n (w.heap.size + 1) (fun _ => none) 0 0 := by
  refine ⟨s, newSt w, h.below (((Below.refl _ _).alloc (Nat.le_refl _) _).alloc (by simp) _), (dk_new w).mono h.low, fun g hg h2 => ?_, fun g ob e => by cases e⟩
  have h3 := h.at_.lt hg
  have h4 := (dk_new w).at_.low g h2
  omega
end

/-- What Append answers, by the view. -/
def appEv (v : Vw) (n : Nat) (k : ByteArray) (m : Nat) : Option Int :=
  if nmB k = true then (match v k with
    | none => if 64 ≤ n then some 11 else if 1048576 < m then some 2 else none
    | some p => if 1048576 < m then some 2 else if 1048576 < p.1.length + m then some 2 else none)
  else some 1
theorem appE_ev (s : St) (k : ByteArray) (m : Nat) : appE s k m = appEv s.view s.L.length k m := by
  unfold appE appEv St.view
  cases s.R k <;> rfl
section
variable {base : Nat} {w w' : World} {B n B2 n2 : Nat} {v v2 : Vw} {t t2 : Int} {s s' o : St}
theorem dk_append_ok (h : Dk base w B v t n s) (k : ByteArray) (A : Option Addr) (m c : Nat) (bs : List UInt8) (hbn : bs.length = m) (hks : k.size ≤ 4611686018427387904) (hA : BytesAt w A bs) (hT : t ≤ 4611686018427387904) (he : appEv v n k m = none) :
    Calls Tryz.prog 48 #[.pointer (some ⟨B, 0, none⟩), .string k, .slice A m c] w fun e w' => e = .returned .nilIface ∧ ∃ s', Dk base w' B (appV v t k bs) (t + (if bs = [] then 0 else 1)) (n + (if (v k).isSome then 0 else 1)) s' ∧ Frame s s' w w' ∧ Below base w w' := by
  obtain ⟨h1, h2, h3, h4, h5, h6⟩ := h
  subst h2 h3 h4 h5
  refine (append_step k A m c bs hbn h1 h6 hks hA hT (by rw [appE_ev]; exact he)).mono ?_
  rintro e w' ⟨rfl, s', hs⟩
  exact ⟨rfl, s', hs.dk rfl, hs.frame, h1.below_of hs.frame h6⟩
theorem dk_append_no (h : Dk base w B v t n s) (k : ByteArray) (A : Option Addr) (m c : Nat) (bs : List UInt8) (hbn : bs.length = m) (hks : k.size ≤ 4611686018427387904) (hA : BytesAt w A bs) (hT : t ≤ 4611686018427387904) (E : Int) (he : appEv v n k m = some E) :
    Calls Tryz.prog 48 #[.pointer (some ⟨B, 0, none⟩), .string k, .slice A m c] w fun e w' => e = .returned (.iface 42 (.int .i64 E)) ∧ w = w' := by
  obtain ⟨h1, h2, h3, h4, h5, h6⟩ := h
  subst h2 h3 h4 h5
  refine (append_any base s k A m c bs hbn w h1 h6 hks hA hT).mono ?_
  rintro e w' ⟨rfl, h⟩
  rw [appE_ev, he] at h ⊢
  rcases h with ⟨_, h⟩ | ⟨h, _⟩
  · exact ⟨rfl, h⟩
  · cases h
/-- Names: the names, rising. -/
theorem dk_names (h : Dk base w B v t n s) : Calls Tryz.prog 22 #[.pointer (some ⟨B, 0, none⟩)] w fun e w' => ∃ (A : Option Addr) (c : Nat) (ks : List ByteArray), e = .returned (.slice A n c) ∧ ks.length = n ∧ ks.Nodup ∧ (∀ k, k ∈ ks ↔ (v k).isSome = true) ∧
      w'.ownsRow w.heap.size 9 1 (.slice A n c) n (ks.map Value.string) ∧ ks.Pairwise (fun a b => a.data.toList ≤ b.data.toList) ∧ Below w.heap.size w w' := by
  obtain ⟨h1, h2, h3, h4, h5, h6⟩ := h
  subst h2 h3 h4 h5
  refine (names_any base s w h1).mono ?_
  rintro e w' ⟨V, ss, rfl, hp, hrow, hb⟩
  have hl : ss.length = s.L.length := by rw [hp.length_eq]; simp
  rw [hl] at hrow
  obtain ⟨A, c, rfl⟩ := own_slice hrow
  have hpm : (ss.mergeSort (fun x y => decide (x ≤ y))).Perm (s.L.map keyB) := (List.mergeSort_perm _ _).trans hp
  have hpk : ((ss.mergeSort (fun x y => decide (x ≤ y))).map fun l => (⟨l.toArray⟩ : ByteArray)).Perm (s.L.map MEnt.k) := by
    refine (hpm.map _).trans ?_
    rw [List.map_map]
    have e : ((fun l : List UInt8 => (⟨l.toArray⟩ : ByteArray)) ∘ keyB) = MEnt.k := by
      funext x; simp [keyB]
    rw [e]
  have hsort : (ss.mergeSort (fun x y => decide (x ≤ y))).Pairwise (fun a b => a ≤ b) := by
    have := List.pairwise_mergeSort (le := fun x y : List UInt8 => decide (x ≤ y)) (fun a b c h1 h2 => by simp only [decide_eq_true_eq] at *; exact List.le_trans h1 h2) (fun a b => by simpa using List.le_total a b) ss
    exact this.imp fun h => by simpa using h
  refine ⟨A, c, (ss.mergeSort (fun x y => decide (x ≤ y))).map fun l => ⟨l.toArray⟩, rfl, by simp [hl], hpk.nodup_iff.2 h1.wf.keys, fun k => ?_, ?_, ?_, hb⟩
  · rw [hpk.mem_iff, h1.keys_iff, view_some]
  · have e : ((ss.mergeSort (fun x y => decide (x ≤ y))).map fun l => (⟨l.toArray⟩ : ByteArray)).map Value.string = (ss.mergeSort (fun x y => decide (x ≤ y))).map encStr := by simp [encStr]
    rw [e]; exact hrow
  · rw [List.pairwise_map]
    exact hsort.imp fun h => by simpa using h
end
end Go.Proofs.YthokoimoiamddaaGreatDoor
set_option linter.unusedSimpArgs false
set_option linter.unusedVariables false
namespace Go.Proofs.YthokoimoiamddaaGreatDoor
open Go Go.RowKit

theorem leftP_fst (l : List (Int × Int)) (k : Int) : (leftP l k).map (·.1) = l.map (·.1) := by
  induction l generalizing k with
  | nil => rfl
  | cons p l ih => simp only [leftP, List.map_cons, ih]
theorem lookP_some {l : List (Int × Int)} {t : Int} (h : t ∈ l.map (·.1)) : (lookP l t).isSome = true := by
  induction l with
  | nil => simp at h
  | cons p l ih =>
    simp only [lookP]
    cases hl : lookP l t with
    | some v => rfl
    | none =>
      simp only
      by_cases e : t = p.1
      · rw [if_pos e]; rfl
      · simp only [List.map_cons, List.mem_cons] at h
        rcases h with h | h
        · exact absurd h e
        · have := ih h; rw [hl] at this; cases this
theorem lookP_none {l : List (Int × Int)} {t : Int} (h : t ∉ l.map (·.1)) : lookP l t = none := by
  cases hl : lookP l t with
  | none => rfl
  | some v => exact absurd (List.mem_map.2 ⟨_, lookP_mem hl, rfl⟩) h
theorem open_cons (p : Int × Int) (l : List (Int × Int)) : openOf (p :: l) = p.2 + openOf l := by simp [openOf]
theorem open_nonneg {l : List (Int × Int)} (h : ∀ p ∈ l, 0 < p.2) : 0 ≤ openOf l := by
  induction l with
  | nil => simp [openOf]
  | cons p l ih =>
    have h1 := h p (by simp)
    have h2 := ih fun q hq => h q (by simp [hq])
    rw [open_cons]; omega
theorem sum_leftP (l : List (Int × Int)) (k : Int) (hk : 0 ≤ k) (h : ∀ p ∈ l, 0 < p.2) : ((leftP l k).map (·.2)).sum = min k (openOf l) := by
  induction l generalizing k with
  | nil => simp [leftP, openOf]; omega
  | cons p l ih =>
    have h1 := h p (by simp)
    have h2 := open_nonneg fun q hq => h q (List.mem_cons_of_mem p hq)
    have h3 := ih (k - min k p.2) (by omega) fun q hq => h q (by simp [hq])
    simp only [leftP, List.map_cons, List.sum_cons, h3, open_cons]
    omega
theorem map_look (l : List (Int × Int)) (k : Int) (hd : (l.map (·.1)).Nodup) : l.map (fun p => (lookP (leftP l k) p.1).getD 0) = (leftP l k).map (·.2) := by
  induction l generalizing k with
  | nil => rfl
  | cons p l ih =>
    simp only [List.map_cons, List.nodup_cons] at hd
    have h3 := ih (k - min k p.2) hd.2
    simp only [leftP, List.map_cons]
    congr 1
    · simp only [lookP]
      rw [lookP_none (by rw [leftP_fst]; exact hd.1)]
      simp
    · rw [← h3]
      refine List.map_congr_left fun q hq => ?_
      simp only [lookP]
      have := lookP_some (l := leftP l (k - min k p.2)) (t := q.1) (by rw [leftP_fst]; exact List.mem_map.2 ⟨q, hq, rfl⟩)
      cases hl : lookP (leftP l (k - min k p.2)) q.1 with
      | none => rw [hl] at this; cases this
      | some v => rfl
theorem leftSum_all {l : List (Int × Int)} {k : Int} (hk : 0 ≤ k) (h : ∀ p ∈ l, 0 < p.2) (hs : l.Pairwise (fun a b => a.1 < b.1)) : leftSum (leftF l k) l = min k (openOf l) := by
  have hnd : (l.map (·.1)).Nodup := by
    rw [List.nodup_iff_pairwise_ne, List.pairwise_map]
    exact hs.imp fun hab => by omega
  unfold leftSum leftF
  rw [map_look l k hnd, sum_leftP l k hk h]
theorem leftSum_perm (f : Int → Int) {l m : List (Int × Int)} (h : l.Perm m) : leftSum f l = leftSum f m := by
  unfold leftSum
  exact sum_perm (h.map _)
theorem openOf_perm {l m : List (Int × Int)} (h : l.Perm m) : openOf l = openOf m := by
  unfold openOf
  exact sum_perm (h.map _)
theorem leftSum_flat {α : Type} (f : Int → Int) (ks : List α) (g : α → List (Int × Int)) : leftSum f (ks.flatMap g) = (ks.map fun k => leftSum f (g k)).sum := by
  induction ks with
  | nil => rfl
  | cons k ks ih => simp only [List.flatMap_cons, List.map_cons, List.sum_cons, ← ih]; simp [leftSum]
theorem openOf_flat {α : Type} (ks : List α) (g : α → List (Int × Int)) : openOf (ks.flatMap g) = (ks.map fun k => openOf (g k)).sum := by
  induction ks with
  | nil => rfl
  | cons k ks ih => simp only [List.flatMap_cons, List.map_cons, List.sum_cons, ← ih]; simp [openOf]
theorem sum_sub {α : Type} (ks : List α) (f g : α → Int) : (ks.map fun k => f k - g k).sum = (ks.map f).sum - (ks.map g).sum := by
  induction ks with
  | nil => rfl
  | cons k ks ih => simp only [List.map_cons, List.sum_cons, ih]; omega
theorem sum_le_of {α : Type} (ks : List α) (f : α → Int) (b : Int) (h : ∀ k ∈ ks, f k ≤ b) : (ks.map f).sum ≤ ks.length * b := by
  induction ks with
  | nil => simp
  | cons k ks ih =>
    have h1 := h k (by simp)
    have h2 := ih fun q hq => h q (by simp [hq])
    simp only [List.map_cons, List.sum_cons, List.length_cons]
    have e : ((ks.length + 1 : Nat) : Int) * b = ks.length * b + b := by rw [Int.natCast_add, Int.add_mul]; simp
    rw [e]; omega
theorem sum_nonneg_of {α : Type} (ks : List α) (f : α → Int) (h : ∀ k ∈ ks, 0 ≤ f k) : 0 ≤ (ks.map f).sum := by
  induction ks with
  | nil => simp
  | cons k ks ih =>
    have h1 := h k (by simp)
    have h2 := ih fun q hq => h q (by simp [hq])
    simp only [List.map_cons, List.sum_cons]; omega

/-- What a view may be. -/
structure VwOK (v : Vw) : Prop where
  pos : ∀ k p, v k = some p → ∀ x ∈ p.2, 0 < x.2
  sum : ∀ k p, v k = some p → openOf p.2 ≤ p.1.length
theorem Dk.vok {base : Nat} {w : World} {B n : Nat} {v : Vw} {t : Int} {s : St} (h : Dk base w B v t n s) : VwOK v := by
  obtain ⟨h1, h2, rfl, h4, h5, h6⟩ := h
  refine ⟨fun k p hp => ?_, fun k p hp => ?_⟩
  · obtain ⟨r, hr, e1, e2⟩ := view_is hp
    rw [← e2]; exact (h1.recs k r hr).pos
  · obtain ⟨r, hr, e1, e2⟩ := view_is hp
    rw [← e1, ← e2]; exact (h1.recs k r hr).sum
theorem Dk.keys {base : Nat} {w : World} {B n : Nat} {v : Vw} {t : Int} {s : St} (h : Dk base w B v t n s) : ∃ ks : List ByteArray, ks.Nodup ∧ (∀ k, k ∈ ks ↔ (v k).isSome = true) ∧ ks.length = n ∧ n ≤ 64 := by
  obtain ⟨h1, h2, rfl, h4, rfl, h6⟩ := h
  exact ⟨s.L.map MEnt.k, h1.wf.keys, fun k => (h1.keys_iff k).trans (by rw [view_some]), by simp, h1.few⟩

/-- How many bytes of a file a crash loses. -/
def lostV (f : Int → Int) (v : Vw) (k : ByteArray) : Int := match v k with
  | some p => (p.1.length : Int) - keepP f p
  | none => 0
theorem lost_one {f : Int → Int} {v : Vw} {k : ByteArray} {p : List UInt8 × List (Int × Int)} (hv : VwOK v) (h : v k = some p) (hb : ∀ x ∈ p.2, 0 ≤ f x.1 ∧ f x.1 ≤ x.2) : lostV f v k = openV v k - leftSum f (looseV v k) ∧ keepP f p ≤ p.1.length ∧ 0 ≤ lostV f v k := by
  have h1 := leftSum_bd f p.2 hb
  have h2 := hv.sum k p h
  unfold lostV openV looseV keepP
  rw [h]
  simp only
  omega
theorem lost_none {f : Int → Int} {v : Vw} {k : ByteArray} (h : v k = none) : lostV f v k = openV v k - leftSum f (looseV v k) := by
  unfold lostV openV looseV
  rw [h]
  simp [leftSum]
theorem openV_loose (v : Vw) (k : ByteArray) : openOf (looseV v k) = openV v k := by
  unfold openV looseV
  cases v k <;> simp [openOf]
theorem looseV_some {v : Vw} {k : ByteArray} {p : List UInt8 × List (Int × Int)} (h : v k = some p) : looseV v k = p.2 := by unfold looseV; rw [h]

section
variable {v : Vw} {ks : List ByteArray} {keep : Int} {l' : List (Int × Int)}
theorem crash_bd (hv : VwOK v) (hi : ∀ k, k ∈ ks ↔ (v k).isSome = true) (hk : 0 ≤ keep) (hp : l'.Perm (ks.flatMap (looseV v))) (hs : l'.Pairwise (fun a b => a.1 < b.1)) {k : ByteArray} {p : List UInt8 × List (Int × Int)} (h : v k = some p) : ∀ x ∈ p.2, 0 ≤ leftF l' keep x.1 ∧ leftF l' keep x.1 ≤ x.2 := by
  intro x hx
  have hpos : ∀ y ∈ l', 0 < y.2 := fun y hy => by
    have := hp.mem_iff.1 hy
    obtain ⟨k2, hk2, hy2⟩ := List.mem_flatMap.1 this
    cases hv2 : v k2 with
    | none => unfold looseV at hy2; rw [hv2] at hy2; cases hy2
    | some q => rw [looseV_some hv2] at hy2; exact hv.pos k2 q hv2 y hy2
  refine leftF_bd hk hpos hs (hp.mem_iff.2 (List.mem_flatMap.2 ⟨k, (hi k).2 (by rw [h]; rfl), by rw [looseV_some h]; exact hx⟩))
/-- THE LAW: over all files. -/
theorem lost_all (hv : VwOK v) (hi : ∀ k, k ∈ ks ↔ (v k).isSome = true) (hk : 0 ≤ keep) (hp : l'.Perm (ks.flatMap (looseV v))) (hs : l'.Pairwise (fun a b => a.1 < b.1)) :
    (ks.map (lostV (leftF l' keep) v)).sum = max 0 ((ks.map (openV v)).sum - keep) := by
  have hpos : ∀ y ∈ l', 0 < y.2 := fun y hy => by
    have := hp.mem_iff.1 hy
    obtain ⟨k2, hk2, hy2⟩ := List.mem_flatMap.1 this
    cases hv2 : v k2 with
    | none => unfold looseV at hy2; rw [hv2] at hy2; cases hy2
    | some q => rw [looseV_some hv2] at hy2; exact hv.pos k2 q hv2 y hy2
  have e1 : ks.map (lostV (leftF l' keep) v) = ks.map (fun k => openV v k - leftSum (leftF l' keep) (looseV v k)) := by
    refine List.map_congr_left fun k hk2 => ?_
    cases hv2 : v k with
    | none => exact lost_none hv2
    | some q => exact (lost_one hv hv2 (crash_bd hv hi hk hp hs hv2)).1
  have e2 : leftSum (leftF l' keep) l' = min keep (openOf l') := leftSum_all hk hpos hs
  rw [leftSum_perm _ hp, openOf_perm hp, leftSum_flat, openOf_flat] at e2
  have e3 : (ks.map fun k => openOf (looseV v k)) = ks.map (openV v) := List.map_congr_left fun k _ => openV_loose v k
  rw [e3] at e2
  rw [e1, sum_sub, e2]
  have := sum_nonneg_of ks (openV v) fun k hk2 => by
    cases hv2 : v k with
    | none => unfold openV; rw [hv2]; exact Int.le_refl _
    | some q => unfold openV; rw [hv2]; exact open_nonneg (hv.pos k q hv2)
  omega
end
end Go.Proofs.YthokoimoiamddaaGreatDoor
