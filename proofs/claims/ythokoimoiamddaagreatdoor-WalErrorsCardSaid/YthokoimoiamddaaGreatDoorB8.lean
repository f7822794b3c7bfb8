/-
  event.letter, event.run, event.Name: exactly what they answer, at every string. Own work.
  disk: the reference's Twin; stores into a row of bytes. Own work (after XNetHelp, XNetTouch).
  A region that draws its order, whose callees lay memory, walked once: Derived/Deep/Quiet.lean's theorem at a class of worlds of one's own. Own work.
  wal, plain facts: numbers in four bytes; frames of bytes, one behind the other, and how they are found again. Own work.
  wal: the check sum of bytes: what 'wire.Sum' answers is a function of the bytes, a number of 32 bits. Own work.
  wal: a number in four bytes, and back: 'wire.four', 'wire.number'. Own work.
  wal: four bytes; bytes behind bytes; a frame. Own work.
  wal: a frame of bytes; a number back from four bytes; an error at a byte. Own work.
-/
import Derived.Test.YthokoimoiamddaaGreatDoorProg
import Derived.WalkKit
import Derived.BigQuiet
import Derived.Deep.DeepFit
import Derived.KernelRfl
import Derived.Test.YthokoimoiamddaaGreatDoorB6
import Derived.Below
import Derived.Test.YthokoimoiamddaaGreatDoorB1
import Derived.Laws.BitsAllLaws
import Derived.Lib.Hide
import Derived.Test.YthokoimoiamddaaGreatDoorB5
import Derived.Laws.MakeOwn
set_option linter.unusedSimpArgs false
set_option linter.unusedVariables false
namespace Go.Proofs.YthokoimoiamddaaGreatDoor
open Go Go.RowKit

def letB (c : Int) : Bool := decide (c = 95 ∨ (97 ≤ c ∧ c ≤ 122) ∨ (48 ≤ c ∧ c ≤ 57))

theorem letter_any (c : Int) (w : World) :
    Calls Tryz.prog 60 #[.int .u8 c] w fun e w' => e = .returned (.bool (letB c)) ∧ w = w' := by
  by_cases h1 : c = 95
  · have hb : letB c = true := by simp [letB, h1]
    rw [hb]
    have g1 : (c == 95) = true := by simp [h1]
    clear h1 hb
    go_enter Tryz.func60, Tryz.ntmps60
    go_wp2
    go_ret
    exact ⟨rfl, rfl⟩
  · have g1 : (c == 95) = false := by simp [h1]
    by_cases h2 : 97 ≤ c
    · by_cases h3 : c ≤ 122
      · have hb : letB c = true := by simp [letB, h2, h3]
        rw [hb]; clear hb h1
        go_enter Tryz.func60, Tryz.ntmps60
        go_wp2
        go_ret
        exact ⟨rfl, rfl⟩
      · have hb : letB c = false := by simp [letB, h1]; omega
        have h4 : 48 ≤ c := by omega
        have h5 : ¬ c ≤ 57 := by omega
        rw [hb]; clear hb h1
        go_enter Tryz.func60, Tryz.ntmps60
        go_wp2
        go_ret
        exact ⟨rfl, rfl⟩
    · by_cases h4 : 48 ≤ c
      · by_cases h5 : c ≤ 57
        · have hb : letB c = true := by simp [letB, h4, h5]
          rw [hb]; clear hb h1
          go_enter Tryz.func60, Tryz.ntmps60
          go_wp2
          go_ret
          exact ⟨rfl, rfl⟩
        · have hb : letB c = false := by simp [letB, h1]; omega
          rw [hb]; clear hb h1
          go_enter Tryz.func60, Tryz.ntmps60
          go_wp2
          go_ret
          exact ⟨rfl, rfl⟩
      · have hb : letB c = false := by simp [letB, h1]; omega
        rw [hb]; clear hb h1
        go_enter Tryz.func60, Tryz.ntmps60
        go_wp2
        go_ret
        exact ⟨rfl, rfl⟩

/-- How many letters stand from a place on. -/
def runN (s : ByteArray) (at_ : Nat) : Nat := ((s.data.toList.drop at_).takeWhile fun c => letB (c.toNat : Int)).length

theorem runN_end (s : ByteArray) (k : Nat) (h : s.size ≤ k) : runN s k = 0 := by
  unfold runN; rw [List.drop_eq_nil_of_le (by simpa using h)]; rfl
theorem runN_yes (s : ByteArray) (k : Nat) (h : k < s.size) (hb : letB ((s[k]).toNat : Int) = true) : runN s k = runN s (k + 1) + 1 := by
  unfold runN
  rw [List.drop_eq_getElem_cons (by simpa using h)]
  have : letB ((s.data.toList[k]'(by simpa using h)).toNat : Int) = true := hb
  rw [List.takeWhile_cons, if_pos this]
  simp
theorem runN_no (s : ByteArray) (k : Nat) (h : k < s.size) (hb : letB ((s[k]).toNat : Int) = false) : runN s k = 0 := by
  unfold runN
  rw [List.drop_eq_getElem_cons (by simpa using h)]
  have : letB ((s.data.toList[k]'(by simpa using h)).toNat : Int) = false := hb
  rw [List.takeWhile_cons, if_neg (by rw [this]; simp)]
  rfl
theorem runN_le (s : ByteArray) (k : Nat) (hk : k ≤ s.size) : k + runN s k ≤ s.size := by
  have h1 := (List.takeWhile_prefix (fun c : UInt8 => letB (c.toNat : Int)) (l := s.data.toList.drop k)).length_le
  have h2 : (s.data.toList.drop k).length = s.size - k := by simp
  unfold runN; omega

theorem run_any (s : ByteArray) (w : World) (hs : s.size ≤ 1000000000) :
    Calls Tryz.prog 40 #[.string s, .int .i64 0] w fun e w' => e = .returned (.int .i64 (runN s 0)) ∧ w = w' := by
  go_enter Tryz.func40, Tryz.ntmps40
  go_wp2
  go_loop [1] (fun i => ∃ k : Nat, k ≤ s.size ∧ i = .int .i64 k ∧ runN s 0 = k + runN s k) (fun i => s.size - (intOf i).toNat)
  case atStart => exact ⟨0, Nat.zero_le _, rfl, by simp⟩
  case round =>
    obtain ⟨k, hk, rfl, hr⟩ := hrel
    have HR : Hid (runN s 0 = k + runN s k) := hr
    clear hr
    by_cases hlt : k < s.size
    · cases hb : letB ((s[k]).toNat : Int) with
      | true =>
        have HS : Hid (runN s k = runN s (k + 1) + 1) := runN_yes s k hlt hb
        have HB : Hid (letB ((s[k]).toNat : Int) = true) := hb
        clear hb
        go_wp2_with (go_at_call 60; refine (letter_any _ _).mono ?_; rw [HB.out]; rintro e w' ⟨rfl, rfl⟩)
        go_round
        case rel => exact ⟨k + 1, by omega, by go_num, by rw [HR.out, HS.out]; omega⟩
        case measure => simp [intOf]; omega
      | false =>
        have HS : Hid (runN s k = 0) := runN_no s k hlt hb
        have HB : Hid (letB ((s[k]).toNat : Int) = false) := hb
        clear hb
        go_wp2_with (go_at_call 60; refine (letter_any _ _).mono ?_; rw [HB.out]; rintro e w' ⟨rfl, rfl⟩)
        go_ret
        exact ⟨by rw [HR.out, HS.out]; rfl, rfl⟩
    · have HS : Hid (runN s k = 0) := runN_end s k (by omega)
      go_wp2
      go_ret
      exact ⟨by rw [HR.out, HS.out]; rfl, rfl⟩

/-- Is s a name? -/
def nameB (s : ByteArray) : Bool := decide (1 ≤ s.size ∧ s.size ≤ 16) && (if h : 0 < s.size then decide ((97 : Int) ≤ ((s[0]'h).toNat : Int) ∧ ((s[0]'h).toNat : Int) ≤ 122) else false) && decide (runN s 0 = s.size)

theorem name_any (s : ByteArray) (w : World) :
    Calls Tryz.prog 24 #[.string s] w fun e w' => e = .returned (.bool (nameB s)) ∧ w = w' := by
  by_cases h1 : 1 ≤ s.size
  · by_cases h2 : s.size ≤ 16
    · by_cases h3 : (97 : Int) ≤ ((s[0]'h1).toNat : Int)
      · by_cases h4 : ((s[0]'h1).toNat : Int) ≤ 122
        · by_cases h5 : runN s 0 = s.size
          · have HB : Hid (nameB s = true) := by simp only [Hid, nameB]; rw [dif_pos (by omega)]; simp [h1, h2, h3, h4, h5]
            have HR : Hid (runN s 0 = s.size) := h5
            have h6 : (((s.size : Nat) : Int) == (s.size : Int)) = true := by simp
            rw [HB.out]
            clear h5
            go_enter Tryz.func24, Tryz.ntmps24
            go_wp2_with (go_at_call 40; refine (run_any s _ (by omega)).mono ?_; rw [HR.out]; rintro e w' ⟨rfl, rfl⟩)
            go_ret
            exact ⟨rfl, rfl⟩
          · have HB : Hid (nameB s = false) := by simp only [Hid, nameB]; simp [h5]
            have h6 : (((runN s 0 : Nat) : Int) == (s.size : Int)) = false := by simp; omega
            rw [HB.out]
            clear h5
            go_enter Tryz.func24, Tryz.ntmps24
            go_wp2_with (go_at_call 40; refine (run_any s _ (by omega)).mono ?_; rintro e w' ⟨rfl, rfl⟩)
            go_ret
            exact ⟨rfl, rfl⟩
        · have HB : Hid (nameB s = false) := by simp only [Hid, nameB]; rw [dif_pos (by omega)]; simp [h4]
          rw [HB.out]
          go_enter Tryz.func24, Tryz.ntmps24
          go_wp2
          go_ret
          exact ⟨rfl, rfl⟩
      · have HB : Hid (nameB s = false) := by simp only [Hid, nameB]; rw [dif_pos (by omega)]; simp [h3]
        rw [HB.out]
        go_enter Tryz.func24, Tryz.ntmps24
        go_wp2
        go_ret
        exact ⟨rfl, rfl⟩
    · have HB : Hid (nameB s = false) := by simp only [Hid, nameB]; simp [h2]
      rw [HB.out]
      go_enter Tryz.func24, Tryz.ntmps24
      go_wp2
      go_ret
      exact ⟨rfl, rfl⟩
  · have HB : Hid (nameB s = false) := by simp only [Hid, nameB]; simp [h1]
    rw [HB.out]
    go_enter Tryz.func24, Tryz.ntmps24
    go_wp2
    go_ret
    exact ⟨rfl, rfl⟩

end Go.Proofs.YthokoimoiamddaaGreatDoor
set_option linter.unusedSimpArgs false
set_option linter.unusedVariables false
namespace Go.Proofs.YthokoimoiamddaaGreatDoor
open Go Go.RowKit

theorem twin_none (c : Nat) (w : World) : Calls Tryz.prog 11 #[.slice none 0 c] w fun e w' => ∃ v, e = .returned v ∧ w'.ownsRow w.heap.size 5 1 v 0 (byteVs []) ∧ Below w.heap.size w w' := by
  go_enter Tryz.func11, Tryz.ntmps11
  go_wp2
  go_ret
  exact ⟨_, rfl, World.ownsRow_made w #[] 0 (Nat.le_refl _) (by simp) (by simp), (Below.refl _ _).alloc (Nat.le_refl _) _⟩

theorem twin_any (A : Option Addr) (bs : List UInt8) (c : Nat) (w : World) (h : BytesAt w A bs) (hlen : bs.length ≤ 2000000) :
    Calls Tryz.prog 11 #[.slice A bs.length c] w fun e w' => ∃ v, e = .returned v ∧ w'.ownsRow w.heap.size 5 1 v bs.length (byteVs bs) ∧ Below w.heap.size w w' := by
  cases A with
  | none =>
    have h0 := h.1 rfl
    have h1 := List.eq_nil_of_length_eq_zero h0
    subst h1
    exact twin_none c w
  | some ad =>
    obtain ⟨i0, hi, hz0, hz1, hz2⟩ := info_parts byte_info
    have hown0 : (w.alloc (.cells #[] 5)).ownsRow w.heap.size 5 1 (.slice (some ⟨w.heap.size, 0, none⟩) 0 0) 0 [] := World.ownsRow_made w #[] 0 (Nat.le_refl _) (by simp) (by simp)
    have hx2 : Hid (∀ j u, (byteVs bs)[j]? = some u → (w.alloc (.cells #[] 5)).cell? (ad.add j) = some u) := fun j u hu => by
      have := h.2 ad rfl j u hu
      rw [World.cell?_alloc_lt _ _ _ (World.block_lt_of_cell? w _ this)]; exact this
    have h1' : Hid (∀ u ∈ byteVs bs, u.oneCell' = true) := byteVs_one bs
    have hl' : Hid ((byteVs bs).length = bs.length * 1) := by simp [Hid, byteVs]
    have hn' : Hid (0 + bs.length ≤ maxLen) := Nat.le_trans (show 0 + bs.length ≤ 2000000 by omega) (by decide)
    have hb' : Hid ((0 + bs.length) * 1 ≤ 140737488355328) := Nat.le_trans (Nat.mul_le_mul_right 1 (show 0 + bs.length ≤ 2000000 by omega)) (by decide)
    have hs' : Hid (w.heap.size ≤ (w.alloc (.cells #[] 5)).heap.size) := by simp [Hid]
    clear h hlen
    go_enter Tryz.func11, Tryz.ntmps11
    go_wp2_with (at_builtin; refine wpList_append_own _ rfl _ _ 23 rfl w.heap.size 5 i0 (.int .u8 0) 1 1 Tryz.underlying23 hi hz0 hz1 hz2 rfl (by decide) _ 0 [] rfl hown0 ad bs.length c (byteVs bs) rfl hl'.out hx2.out h1'.out hn'.out hb'.out hs'.out ?_; intro v' w1 hown1 hgrow hnil)
    have hg : (w.alloc (.cells #[] 5)).grownBy w1 (some w.heap.size) := hgrow
    clear hgrow hnil
    have hfin : Hid (w1.ownsRow w.heap.size 5 1 v' bs.length (byteVs bs) ∧ Below w.heap.size w w1) :=
      ⟨by simpa using hown1, ((Below.refl _ _).alloc (Nat.le_refl _) _).grown hg (by simp) (fun k h => by cases h; exact Nat.le_refl _)⟩
    clear hg hown1 hown0
    go_ret
    exact ⟨v', rfl, hfin.out.1, hfin.out.2⟩

/-- Only block o has turned; none is new. -/
structure Touch (o : Option Nat) (w w' : World) : Prop where
  os : w'.os = w.os
  tape : w'.tape = w.tape
  output : w'.output = w.output
  size : w'.heap.size = w.heap.size
  block : ∀ k, o ≠ some k → w'.heap[k]? = w.heap[k]?
theorem Touch.refl (o : Option Nat) (w : World) : Touch o w w := ⟨rfl, rfl, rfl, rfl, fun _ _ => rfl⟩
theorem Touch.trans {o : Option Nat} {a b c : World} (h : Touch o a b) (k : Touch o b c) : Touch o a c :=
  ⟨k.os.trans h.os, k.tape.trans h.tape, k.output.trans h.output, k.size.trans h.size, fun i hi => (k.block i hi).trans (h.block i hi)⟩
theorem Touch.set (w : World) (g i : Nat) (v : Value) : Touch (some g) w (w.setCell ⟨g, i, none⟩ v) :=
  ⟨rfl, rfl, rfl, by simp [World.setCell], fun k hk => Below.heap_setCell w ⟨g, i, none⟩ v k (fun e => hk (by rw [e]))⟩
theorem Touch.below {o : Option Nat} {w w' : World} {base : Nat} (h : Touch o w w') (hg : ∀ g, o = some g → base ≤ g) : Below base w w' :=
  ⟨h.os, h.tape, h.output, by rw [h.size]; exact Nat.le_refl _, fun k hk => h.block k (fun e => by have := hg k e; omega)⟩
theorem Touch.row {o : Option Nat} {w w' : World} {base : Nat} {e : TypeId} {size n : Nat} {v : Value} {xs : List Value} (h : Touch o w w') (hr : w.ownsRow base e size v n xs) (hv : ∀ g, v.ownBlock = some g → o ≠ some g) : w'.ownsRow base e size v n xs :=
  ownsRow_keep hr fun k hk => h.block k (hv k hk)

theorem Dk.touch {base B n : Nat} {w w' : World} {v : Vw} {t : Int} {s : St} {o : Option Nat} (h : Dk base w B v t n s) (hc : ∀ g, s.own g → o ≠ some g) (ht : Touch o w w') : Dk base w' B v t n s :=
  ⟨h.at_.keep fun g hg => ht.block g (hc g hg), h.B, h.view, h.turn, h.len, by rw [ht.size]; exact h.low⟩
theorem Dk.grown {base B n : Nat} {w w' : World} {v : Vw} {t : Int} {s : St} {o : Option Nat} (h : Dk base w B v t n s) (hc : ∀ g, s.own g → some g ≠ o) (ht : w.grownBy w' o) : Dk base w' B v t n s :=
  ⟨h.at_.keep fun g hg => ht.block g (h.at_.lt hg) (hc g hg), h.B, h.view, h.turn, h.len, Nat.le_trans h.low ht.size⟩
/-- A row of numbers of one byte each. -/
def Nums (base : Nat) (w : World) (v : Value) (n : Nat) : Prop := ∃ xs : List Int, w.ownsRow base 5 1 v n (xs.map (.int .u8))

theorem nums_of {base n : Nat} {w : World} {v : Value} {bs : List UInt8} (h : w.ownsRow base 5 1 v n (byteVs bs)) : Nums base w v n := ⟨bs.map fun b => (b.toNat : Int), by
  have e : (bs.map fun b => (b.toNat : Int)).map (.int .u8) = byteVs bs := by simp [byteVs, byteV]
  rw [e]; exact h⟩
theorem Nums.cell {base : Nat} {w : World} {A : Option Addr} {n c : Nat} (h : Nums base w (.slice A n c) n) {j : Nat} (hj : j < n) : ∃ g x, A = some ⟨g, 0, none⟩ ∧ base ≤ g ∧ w.cell? ⟨g, j, none⟩ = some (.int .u8 x) ∧ w.frozen? ⟨g, j, none⟩ = false ∧ (∃ cur, w.heap[g]? = some (.cells cur 5 (0, 0))) ∧
    ∀ y : Int, Nums base (w.setCell ⟨g, j, none⟩ (.int .u8 y)) (.slice A n c) n := by
  obtain ⟨xs, hr⟩ := h
  have hlen : xs.length = n := by have := hr.1; simpa using this
  rcases hr.2 with ⟨hv, hn⟩ | ⟨g, cap, cur, hv, hg, hh, h3, h4, h5, h6⟩
  · omega
  · injection hv with hA _ hc
    subst hA hc
    have hx : xs[j]? = some xs[j] := List.getElem?_eq_getElem (by omega)
    have hcur : cur[j]? = some (.int .u8 xs[j]) := by
      have e : (cur.toList.take (n * 1))[j]? = some (.int .u8 xs[j]) := by rw [h6, List.getElem?_map, hx]; rfl
      rw [List.getElem?_take, if_pos (by omega)] at e
      simpa using e
    refine ⟨g, xs[j], rfl, hg, by simp [World.cell?, hh, hcur], by simp [World.frozen?, hh], ⟨cur, hh⟩, fun y => ⟨xs.set j y, by simp [hlen], .inr ⟨g, c, cur.setIfInBounds j (.int .u8 y), rfl, hg, ?_, h3, h4, by simpa using h5, ?_⟩⟩⟩
    · show (w.heap.modify g _)[g]? = _
      rw [Array.getElem?_modify, if_pos rfl, hh]; rfl
    · rw [List.map_set, ← h6]
      simp [List.take_set]
end Go.Proofs.YthokoimoiamddaaGreatDoor
set_option linter.unusedSimpArgs false
set_option linter.unusedVariables false
namespace Go.Proofs.YthokoimoiamddaaGreatDoor
open Go

/-- The worlds that meet S. -/
structure QW (S : World → Prop) where
  val : World
  ok : S val
theorem calls_in {P : Program} {f : FuncId} {args : Array Value} {S : World → Prop} {x : QW S} {v : Value} (h : Calls P f args x.val fun e w' => e = .returned v ∧ S w') : Calls P f args x.val fun e w'' => e = .returned v ∧ ∃ y : QW S, w'' = y.val :=
  h.mono fun _ w' ⟨he, hs⟩ => ⟨he, ⟨w', hs⟩, rfl⟩
theorem region_in {P : Program} (S : World → Prop) {id : Nat} {Q : Exit → Act → World → Prop} {a : Act} {w : World} {l : List Oper} (hm : P.follows .mixedOrders = true) (hB : Region.lexB .any l.toArray = true) (hC : S w.drew)
    (h : wpQuiet P l.toArray (fun w' => ∃ x : QW S, w' = x.val) (fun a' => ∀ w', S w' → Q .normal a' w') l a) : (Code.region id l.toArray true).wp P Q a w := by
  have e : (fun a' => ∀ w', (∃ x : QW S, w' = x.val) → Q .normal a' w') = fun a' => ∀ w', S w' → Q .normal a' w' := by
    funext a'
    exact propext ⟨fun h w' hw => h w' ⟨⟨w', hw⟩, rfl⟩, fun h w' ⟨x, hx⟩ => hx ▸ h _ x.ok⟩
  exact wp_region_quiet (C := fun w' => ∃ x : QW S, w' = x.val) hm hB ⟨⟨_, hC⟩, rfl⟩ (by rw [e]; simpa using h)
end Go.Proofs.YthokoimoiamddaaGreatDoor
set_option linter.unusedVariables false
namespace Go.Proofs.YthokoimoiamddaaGreatDoor

/-- A number in four bytes, the least first. -/
def le32 (n : Nat) : List UInt8 := [UInt8.ofNat (n % 256), UInt8.ofNat (n / 256 % 256), UInt8.ofNat (n / 65536 % 256), UInt8.ofNat (n / 16777216 % 256)]
/-- The number that four bytes are. -/
def num32 : List UInt8 → Nat
  | [a, b, c, d] => a.toNat + b.toNat * 256 + c.toNat * 65536 + d.toNat * 16777216
  | _ => 0
theorem le32_length (n : Nat) : (le32 n).length = 4 := rfl
theorem ofNat_mod (n : Nat) : (UInt8.ofNat (n % 256)).toNat = n % 256 := by
  rw [UInt8.toNat_ofNat']; omega
theorem num32_le32 (n : Nat) (h : n < 4294967296) : num32 (le32 n) = n := by
  unfold le32 num32
  simp only [ofNat_mod]
  omega
theorem num32_lt (l : List UInt8) : num32 l < 4294967296 := by
  unfold num32
  split
  · rename_i a b c d
    have := a.toNat_lt; have := b.toNat_lt; have := c.toNat_lt; have := d.toNat_lt
    omega
  · omega

section
variable (sm : List UInt8 → Nat)
/-- A frame: its length, its sum, its bytes. -/
def frameP (p : List UInt8) : List UInt8 := le32 p.length ++ (le32 (sm p) ++ p)
def framesP (l : List (List UInt8)) : List UInt8 := l.flatMap (frameP sm)
/-- The bytes of the frame that stands in front, if one does. -/
def takeP (b : List UInt8) : Option (List UInt8) :=
  if b.length < 8 then none
  else if 1048576 < num32 (b.take 4) then none
  else if b.length - 8 < num32 (b.take 4) then none
  else if sm ((b.drop 8).take (num32 (b.take 4))) ≠ num32 ((b.drop 4).take 4) then none
  else some ((b.drop 8).take (num32 (b.take 4)))
variable {sm}
theorem frameP_length (p : List UInt8) : (frameP sm p).length = p.length + 8 := by
  simp only [frameP, List.length_append, le32_length]; omega
theorem frameP_ne (p : List UInt8) : frameP sm p ≠ [] := by
  intro h
  have := congrArg List.length h
  rw [frameP_length] at this
  simp at this
theorem framesP_nil : framesP sm [] = [] := rfl
theorem framesP_cons (p : List UInt8) (l : List (List UInt8)) : framesP sm (p :: l) = frameP sm p ++ framesP sm l := rfl
theorem framesP_append (l m : List (List UInt8)) : framesP sm (l ++ m) = framesP sm l ++ framesP sm m := by simp [framesP]
theorem framesP_one (p : List UInt8) : framesP sm [p] = frameP sm p := by simp [framesP]
theorem frame_head (p r : List UInt8) : (frameP sm p ++ r).take 4 = le32 p.length := by
  rw [frameP, List.append_assoc]
  exact List.take_left' (le32_length _)
theorem frame_sum (p r : List UInt8) : ((frameP sm p ++ r).drop 4).take 4 = le32 (sm p) := by
  rw [frameP, List.append_assoc, List.drop_left' (le32_length _), List.append_assoc]
  exact List.take_left' (le32_length _)
theorem frame_body (p r : List UInt8) : (frameP sm p ++ r).drop 8 = p ++ r := by
  rw [frameP, ← List.append_assoc, List.append_assoc]
  exact List.drop_left' (by simp [le32_length])
/-- A whole frame in front is found, whatever stands behind it. -/
theorem take_frame (hsm : ∀ l, sm l < 4294967296) (p r : List UInt8) (hp : p.length ≤ 1048576) : takeP sm (frameP sm p ++ r) = some p := by
  unfold takeP
  rw [frame_head, frame_sum, frame_body, num32_le32 _ (by omega), num32_le32 _ (hsm p)]
  rw [if_neg (by rw [List.length_append, frameP_length]; omega), if_neg (by omega), if_neg (by rw [List.length_append, frameP_length]; omega), List.take_left' rfl, if_neg (by simp)]
/-- What is found is a frame that stands in front. -/
theorem take_some {b p : List UInt8} (h : takeP sm b = some p) : p.length = num32 (b.take 4) ∧ b.length ≥ p.length + 8 ∧ p = (b.drop 8).take p.length ∧ p.length ≤ 1048576 := by
  unfold takeP at h
  split at h
  · cases h
  · split at h
    · cases h
    · split at h
      · cases h
      · split at h
        · cases h
        · cases h
          refine ⟨by rw [List.length_take, List.length_drop]; omega, by rw [List.length_take, List.length_drop]; omega, ?_, by rw [List.length_take, List.length_drop]; omega⟩
          congr 1
          rw [List.length_take, List.length_drop]; omega
/-- A frame that lost bytes at its end is none. -/
theorem torn_head (p : List UInt8) (k : Nat) (h8 : 8 ≤ k) : ((frameP sm p).take k).take 4 = le32 p.length := by
  rw [List.take_take, Nat.min_eq_left (by omega)]
  have := frame_head (sm := sm) p []
  rwa [List.append_nil] at this
theorem takeP_short (b : List UInt8) (h : b.length < 8) : takeP sm b = none := by
  unfold takeP
  rw [if_pos h]
theorem takeP_less (b : List UInt8) (h : b.length < num32 (b.take 4) + 8) : takeP sm b = none := by
  unfold takeP
  by_cases h1 : b.length < 8
  · rw [if_pos h1]
  · rw [if_neg h1]
    by_cases h2 : 1048576 < num32 (b.take 4)
    · rw [if_pos h2]
    · rw [if_neg h2, if_pos (by omega)]
/-- Bytes that end ahead of the end of the frame that they begin. -/
def tornP (b : List UInt8) : Prop := b.length < 8 ∨ b.length < num32 (b.take 4) + 8
theorem takeP_torn {b : List UInt8} (h : tornP b) : takeP sm b = none := by
  rcases h with h | h
  · exact takeP_short _ h
  · exact takeP_less _ h
theorem tornP_nil : tornP [] := .inl (by simp)
theorem take_torn (p : List UInt8) (hp : p.length ≤ 1048576) (k : Nat) (hk : k < p.length + 8) : tornP ((frameP sm p).take k) := by
  have hl : ((frameP sm p).take k).length = k := by rw [List.length_take, frameP_length]; omega
  by_cases h8 : k < 8
  · exact .inl (by omega)
  · refine .inr ?_
    rw [hl, torn_head p k (by omega), num32_le32 _ (by omega)]
    exact hk
theorem take_nil : takeP sm [] = none := by simp [takeP]

/-- What Scan finds, by the number of rounds that are left. -/
def scanG (tk : List UInt8 → Option (List UInt8)) : Nat → List UInt8 → List (List UInt8)
  | 0, _ => []
  | n + 1, b => match tk b with | none => [] | some p => p :: scanG tk n (b.drop (8 + p.length))
def scanN (sm : List UInt8 → Nat) (n : Nat) (b : List UInt8) : List (List UInt8) := scanG (takeP sm) n b
def sumLen (l : List (List UInt8)) : Nat := (l.map fun p => p.length + 8).sum
theorem sumLen_frames (l : List (List UInt8)) : (framesP sm l).length = sumLen l := by
  induction l with
  | nil => rfl
  | cons p l ih => rw [framesP_cons, List.length_append, frameP_length, ih]; simp [sumLen]
theorem sumLen_cons (p : List UInt8) (l : List (List UInt8)) : sumLen (p :: l) = p.length + 8 + sumLen l := by simp [sumLen]
theorem sumLen_append (l m : List (List UInt8)) : sumLen (l ++ m) = sumLen l + sumLen m := by simp [sumLen]
theorem scanG_none {tk : List UInt8 → Option (List UInt8)} {b : List UInt8} (h : tk b = none) (n : Nat) : scanG tk n b = [] := by
  cases n with
  | zero => rfl
  | succ n => rw [scanG, h]
theorem scanG_some {tk : List UInt8 → Option (List UInt8)} {b p : List UInt8} (h : tk b = some p) (n : Nat) : scanG tk (n + 1) b = p :: scanG tk n (b.drop (8 + p.length)) := by
  rw [scanG, h]
theorem scanG_frames {tk : List UInt8 → Option (List UInt8)} (M : Nat) (ht : ∀ p r, p.length ≤ M → tk (frameP sm p ++ r) = some p) (r : List UInt8) (hr : tk r = none) (l : List (List UInt8)) (hl : ∀ p ∈ l, p.length ≤ M) (n : Nat) (hn : l.length ≤ n) : scanG tk n (framesP sm l ++ r) = l := by
  induction l generalizing n with
  | nil => exact scanG_none hr n
  | cons p l ih =>
    cases n with
    | zero => simp at hn
    | succ n =>
      have h1 := ht p (framesP sm l ++ r) (hl p (by simp))
      have e : (frameP sm p ++ (framesP sm l ++ r)).drop (8 + p.length) = framesP sm l ++ r := List.drop_left' (by rw [frameP_length]; omega)
      rw [framesP_cons, List.append_assoc, scanG_some h1, e, ih (fun q hq => hl q (by simp [hq])) n (by simpa using hn)]
/-- Whole frames, and a rest that begins with none: found just so. -/
theorem scanN_frames (hsm : ∀ l, sm l < 4294967296) (r : List UInt8) (hr : takeP sm r = none) (l : List (List UInt8)) (hl : ∀ p ∈ l, p.length ≤ 1048576) (n : Nat) (hn : l.length ≤ n) : scanN sm n (framesP sm l ++ r) = l :=
  scanG_frames 1048576 (fun p r hp => take_frame hsm p r hp) r hr l hl n hn
theorem take_cases (b : List UInt8) : takeP sm b = none ∨ ∃ p, takeP sm b = some p := by
  cases takeP sm b <;> simp
end
end Go.Proofs.YthokoimoiamddaaGreatDoor
set_option linter.unusedSimpArgs false
set_option linter.unusedVariables false
namespace Go.Proofs.YthokoimoiamddaaGreatDoor
open Go Go.RowKit

/-- What a bit that leaves makes of the sum, so many bits on. -/
def stepI : Nat → Int
  | 0 => 3988292384
  | k + 1 => if bits .and .u32 (stepI k) 1 = 1 then bits .xor .u32 (stepI k / 2) 3988292384 else stepI k / 2
theorem xor32_bd (a b : Int) (h1 : 0 ≤ a ∧ a < 4294967296) (h2 : 0 ≤ b ∧ b < 4294967296) : 0 ≤ bits .xor .u32 a b ∧ bits .xor .u32 a b < 4294967296 := by
  rw [u32_xor a b h1.1 h1.2 h2.1 h2.2]
  have : a.toNat ^^^ b.toNat < 2 ^ 32 := Nat.xor_lt_two_pow (by omega) (by omega)
  omega
theorem stepI_bd (k : Nat) : 0 ≤ stepI k ∧ stepI k < 4294967296 := by
  induction k with
  | zero => decide
  | succ k ih =>
    simp only [stepI]
    split
    · exact xor32_bd _ _ (by omega) (by decide)
    · omega

theorem step_any (n : Nat) (hn : n ≤ 3) (w : World) : Calls Tryz.prog 131 #[.int .i64 n] w fun e w' => e = .returned (.int .u32 (stepI n)) ∧ w = w' := by
  have HN := Lib.hid hn
  clear hn
  go_enter Tryz.func131, Tryz.ntmps131
  go_wp2
  go_loop [3, 5] (fun p i => ∃ k : Nat, k ≤ n ∧ i = .int .i64 k ∧ p = .int .u32 (stepI k)) (fun _ i => n - (intOf i).toNat)
  case atStart => exact ⟨0, Nat.zero_le _, rfl, rfl⟩
  case round =>
    obtain ⟨k, hk, rfl, rfl⟩ := hrel
    obtain ⟨hp1, hp2⟩ := stepI_bd k
    by_cases hlt : k < n
    · have hw1 : IntKind.i64.wrap ((k : Int) + 1) = ((k + 1 : Nat) : Int) := by have := HN.out; rw [IntKind.wrap_i64]; omega
      by_cases hb : bits .and .u32 (stepI k) 1 = 1
      · have HR : Hid (stepI (k + 1) = bits .xor .u32 (stepI k / 2) 3988292384) := by simp [Hid, stepI, hb]
        go_wp2
        exact ⟨⟨k + 1, hlt, by go_num, by rw [HR.out]⟩, by simp [intOf]; omega⟩
      · have HR : Hid (stepI (k + 1) = stepI k / 2) := by simp [Hid, stepI, hb]
        go_wp2
        exact ⟨⟨k + 1, hlt, by go_num, by rw [HR.out]⟩, by simp [intOf]; omega⟩
    · have e : k = n := by omega
      subst e
      go_wp2
      go_ret
      exact ⟨rfl, rfl⟩

/-- A sum moved on by so many of its four bits. -/
def nibG (low s : Int) : Nat → Int
  | 0 => s
  | k + 1 => if bits .and .u32 (low / 2 ^ k) 1 = 1 then bits .xor .u32 (nibG low s k) (stepI (3 - k)) else nibG low s k
def nibI (s : Int) : Int := nibG (bits .and .u32 s 15) (s / 16) 4
theorem nibG_bd (low s : Int) (hs : 0 ≤ s ∧ s < 4294967296) (k : Nat) : 0 ≤ nibG low s k ∧ nibG low s k < 4294967296 := by
  induction k with
  | zero => exact hs
  | succ k ih =>
    simp only [nibG]
    split
    · exact xor32_bd _ _ ih (stepI_bd _)
    · exact ih
theorem nibI_bd (s : Int) (hs : 0 ≤ s ∧ s < 4294967296) : 0 ≤ nibI s ∧ nibI s < 4294967296 := nibG_bd _ _ (by omega) _
theorem and15_bd (a : Int) (h1 : 0 ≤ a ∧ a < 4294967296) : 0 ≤ bits .and .u32 a 15 ∧ bits .and .u32 a 15 < 4294967296 := by
  rw [u32_and a 15 h1.1 h1.2 (by decide) (by decide)]
  have : a.toNat &&& (15 : Int).toNat ≤ (15 : Int).toNat := Nat.and_le_right
  omega

theorem nibble_any (s : Int) (hs : 0 ≤ s ∧ s < 4294967296) (w : World) : Calls Tryz.prog 105 #[.int .u32 s] w fun e w' => e = .returned (.int .u32 (nibI s)) ∧ w = w' := by
  obtain ⟨hs1, hs2⟩ := hs
  obtain ⟨hl1, hl2⟩ := and15_bd s ⟨hs1, hs2⟩
  go_enter Tryz.func105, Tryz.ntmps105
  go_wp2
  obtain ⟨low, hlow⟩ : ∃ low, Hid (bits .and .u32 s 15 = low) := ⟨_, rfl⟩
  rw [hlow.out] at hl1 hl2 ⊢
  go_loop [0, 9] (fun p i => ∃ k : Nat, k ≤ 4 ∧ i = .int .i64 k ∧ p = .int .u32 (nibG low (s / 16) k)) (fun _ i => 4 - (intOf i).toNat)
  case atStart => exact ⟨0, Nat.zero_le _, rfl, rfl⟩
  case round =>
    obtain ⟨k, hk, rfl, rfl⟩ := hrel
    obtain ⟨hg1, hg2⟩ := nibG_bd low (s / 16) ⟨by omega, by omega⟩ k
    obtain ⟨g, hg⟩ : ∃ g, Hid (nibG low (s / 16) k = g) := ⟨_, rfl⟩
    rw [hg.out] at hg1 hg2 ⊢
    obtain rfl | rfl | rfl | rfl | rfl : k = 0 ∨ k = 1 ∨ k = 2 ∨ k = 3 ∨ k = 4 := by omega
    · by_cases hb : bits .and .u32 (low) 1 = 1
      · have HR : Hid (nibG low (s / 16) 1 = bits .xor .u32 g (stepI 3)) := by
          have h2 := hg.out
          rw [Hid, show (1 : Nat) = 0 + 1 from rfl]
          unfold nibG
          rw [if_pos (by simpa using hb), h2]
        go_wp2_with (go_at_call 131; refine (step_any 3 (by decide) _).mono ?_; rintro e w1 ⟨rfl, rfl⟩)
        exact ⟨⟨1, by omega, rfl, by rw [HR.out]⟩, by simp [intOf]⟩
      · have HR : Hid (nibG low (s / 16) 1 = g) := by
          have h2 := hg.out
          rw [Hid, show (1 : Nat) = 0 + 1 from rfl]
          unfold nibG
          rw [if_neg (by simpa using hb), h2]
        go_wp2_with fail
        exact ⟨⟨1, by omega, rfl, by rw [HR.out]⟩, by simp [intOf]⟩
    · by_cases hb : bits .and .u32 (low / 2) 1 = 1
      · have HR : Hid (nibG low (s / 16) 2 = bits .xor .u32 g (stepI 2)) := by
          have h2 := hg.out
          rw [Hid, show (2 : Nat) = 1 + 1 from rfl]
          unfold nibG
          rw [if_pos (by simpa using hb), h2]
        go_wp2_with (go_at_call 131; refine (step_any 2 (by decide) _).mono ?_; rintro e w1 ⟨rfl, rfl⟩)
        exact ⟨⟨2, by omega, rfl, by rw [HR.out]⟩, by simp [intOf]⟩
      · have HR : Hid (nibG low (s / 16) 2 = g) := by
          have h2 := hg.out
          rw [Hid, show (2 : Nat) = 1 + 1 from rfl]
          unfold nibG
          rw [if_neg (by simpa using hb), h2]
        go_wp2_with fail
        exact ⟨⟨2, by omega, rfl, by rw [HR.out]⟩, by simp [intOf]⟩
    · by_cases hb : bits .and .u32 (low / 4) 1 = 1
      · have HR : Hid (nibG low (s / 16) 3 = bits .xor .u32 g (stepI 1)) := by
          have h2 := hg.out
          rw [Hid, show (3 : Nat) = 2 + 1 from rfl]
          unfold nibG
          rw [if_pos (by simpa using hb), h2]
        go_wp2_with (go_at_call 131; refine (step_any 1 (by decide) _).mono ?_; rintro e w1 ⟨rfl, rfl⟩)
        exact ⟨⟨3, by omega, rfl, by rw [HR.out]⟩, by simp [intOf]⟩
      · have HR : Hid (nibG low (s / 16) 3 = g) := by
          have h2 := hg.out
          rw [Hid, show (3 : Nat) = 2 + 1 from rfl]
          unfold nibG
          rw [if_neg (by simpa using hb), h2]
        go_wp2_with fail
        exact ⟨⟨3, by omega, rfl, by rw [HR.out]⟩, by simp [intOf]⟩
    · by_cases hb : bits .and .u32 (low / 8) 1 = 1
      · have HR : Hid (nibG low (s / 16) 4 = bits .xor .u32 g (stepI 0)) := by
          have h2 := hg.out
          rw [Hid, show (4 : Nat) = 3 + 1 from rfl]
          unfold nibG
          rw [if_pos (by simpa using hb), h2]
        go_wp2_with (go_at_call 131; refine (step_any 0 (by decide) _).mono ?_; rintro e w1 ⟨rfl, rfl⟩)
        exact ⟨⟨4, by omega, rfl, by rw [HR.out]⟩, by simp [intOf]⟩
      · have HR : Hid (nibG low (s / 16) 4 = g) := by
          have h2 := hg.out
          rw [Hid, show (4 : Nat) = 3 + 1 from rfl]
          unfold nibG
          rw [if_neg (by simpa using hb), h2]
        go_wp2_with fail
        exact ⟨⟨4, by omega, rfl, by rw [HR.out]⟩, by simp [intOf]⟩
    · go_wp2
      go_ret
      exact ⟨by rw [← hg.out, ← hlow.out]; rfl, rfl⟩
/-- The sum of bytes, from a sum on. -/
def sumG : List UInt8 → Int → Int
  | [], s => s
  | c :: l, s => sumG l (nibI (nibI (bits .xor .u32 s c.toNat)))
theorem sumG_snoc (l : List UInt8) (c : UInt8) (s : Int) : sumG (l ++ [c]) s = nibI (nibI (bits .xor .u32 (sumG l s) c.toNat)) := by
  induction l generalizing s with
  | nil => rfl
  | cons d l ih => exact ih _
theorem byte_bd (c : UInt8) : 0 ≤ (c.toNat : Int) ∧ (c.toNat : Int) < 4294967296 := by have := c.toNat_lt; omega
theorem sumG_bd (l : List UInt8) (s : Int) (hs : 0 ≤ s ∧ s < 4294967296) : 0 ≤ sumG l s ∧ sumG l s < 4294967296 := by
  induction l generalizing s with
  | nil => exact hs
  | cons c l ih => exact ih _ (nibI_bd _ (nibI_bd _ (xor32_bd _ _ hs (byte_bd c))))
/-- The check sum. -/
def sumI (l : List UInt8) : Int := bits .xor .u32 4294967295 (sumG l 4294967295)
def sumB (l : List UInt8) : Nat := (sumI l).toNat
theorem sumI_bd (l : List UInt8) : 0 ≤ sumI l ∧ sumI l < 4294967296 := by
  exact xor32_bd _ _ (by decide) (sumG_bd l 4294967295 (by decide))
theorem sumB_lt (l : List UInt8) : sumB l < 4294967296 := by
  have := sumI_bd l
  unfold sumB; omega
theorem sumB_int (l : List UInt8) : ((sumB l : Nat) : Int) = sumI l := by
  have := sumI_bd l
  unfold sumB; omega

set_option maxHeartbeats 1000000 in
theorem sum_any (A : Option Addr) (n c : Nat) (bs : List UInt8) (hn : bs.length = n) (w : World) (hA : BytesAt w A bs) (hl : n ≤ 4611686018427387904) : Calls Tryz.prog 71 #[.slice A n c] w fun e w' => e = .returned (.int .u32 (sumB bs)) ∧ w = w' := by
  have HA := Lib.hid hA
  have HL := Lib.hid hl
  have HN := Lib.hid hn
  clear hA hl hn
  go_enter Tryz.func71, Tryz.ntmps71
  go_wp2
  go_loop [3, 8] (fun s i => ∃ k : Nat, k ≤ n ∧ i = .int .i64 k ∧ s = .int .u32 (sumG (bs.take k) 4294967295)) (fun _ i => n - (intOf i).toNat)
  case atStart => exact ⟨0, Nat.zero_le _, rfl, rfl⟩
  case round =>
    obtain ⟨k, hk, rfl, rfl⟩ := hrel
    obtain ⟨hg1, hg2⟩ := sumG_bd (bs.take k) 4294967295 (by decide)
    obtain ⟨g, hg⟩ : ∃ g, Hid (sumG (bs.take k) 4294967295 = g) := ⟨_, rfl⟩
    rw [hg.out] at hg1 hg2 ⊢
    by_cases hlt : k < n
    · obtain ⟨x, hx⟩ : ∃ x, Hid (bs[k]? = some x) := ⟨_, List.getElem?_eq_getElem (by have := HN.out; omega)⟩
      obtain ⟨a, ha⟩ : ∃ a, A = some a := by
        cases hA : A with
        | none => have := HA.out.1 hA; have := HN.out; omega
        | some a => exact ⟨a, rfl⟩
      subst ha
      have hcell : w.cell? (a.add k) = some (.int .u8 x.toNat) := HA.out.2 a rfl k (byteV x) (by simp [byteVs, hx.out])
      have hw1 : IntKind.i64.wrap ((k : Int) + 1) = ((k + 1 : Nat) : Int) := by have := HL.out; rw [IntKind.wrap_i64]; omega
      have hx0 := x.toNat_lt
      obtain ⟨z, hz⟩ : ∃ z : Int, Hid ((x.toNat : Int) = z) := ⟨_, rfl⟩
      have hz1 : 0 ≤ z := by have := hz.out; omega
      have hz2 : z < 256 := by have := hz.out; omega
      rw [hz.out] at hcell
      have HY : Hid (0 ≤ bits .xor .u32 g z ∧ bits .xor .u32 g z < 4294967296) := xor32_bd g z ⟨hg1, hg2⟩ ⟨hz1, by omega⟩
      have HR : Hid (sumG (bs.take (k + 1)) 4294967295 = nibI (nibI (bits .xor .u32 g z))) := by
        have e : bs.take (k + 1) = bs.take k ++ [x] := by
          obtain ⟨h7, h8⟩ := List.getElem?_eq_some_iff.1 hx.out
          rw [← h8, List.take_append_getElem]
        rw [Hid, e, sumG_snoc, hg.out, hz.out]
      obtain ⟨y, hy⟩ : ∃ y, Hid (bits .xor .u32 g z = y) := ⟨_, rfl⟩
      have HY2 : Hid (0 ≤ y ∧ y < 4294967296) := by rw [← hy.out]; exact HY.out
      clear hx0
      have HZ : Hid (0 ≤ nibI y ∧ nibI y < 4294967296) := nibI_bd y HY2.out
      go_wp2_with fail
      rw [hy.out]
      refine (nibble_any y HY2.out _).mono ?_
      rintro e w1 ⟨rfl, rfl⟩
      rw [hy.out] at HR
      go_wp2_with fail
      refine (nibble_any (nibI y) HZ.out _).mono ?_
      rintro e w1 ⟨rfl, rfl⟩
      go_wp2_with fail
      exact ⟨⟨k + 1, hlt, by go_num, by rw [HR.out]⟩, by simp [intOf]; omega⟩
    · have e : k = n := by omega
      subst e
      go_wp2
      go_ret
      refine ⟨?_, rfl⟩
      have e2 : bs.take k = bs := List.take_of_length_le (by have := HN.out; omega)
      rw [sumB_int, ← hg.out, e2]
      rfl
end Go.Proofs.YthokoimoiamddaaGreatDoor
set_option linter.unusedSimpArgs false
set_option linter.unusedVariables false
namespace Go.Proofs.YthokoimoiamddaaGreatDoor
open Go Go.RowKit

theorem and_cat (a b c d : Nat) (hb : b < 2 ^ 8) (hd : d < 2 ^ 8) : (2 ^ 8 * a + b) &&& (2 ^ 8 * c + d) = 2 ^ 8 * (a &&& c) + (b &&& d) := by
  have h : b &&& d < 2 ^ 8 := Nat.lt_of_le_of_lt Nat.and_le_left hb
  refine Nat.eq_of_testBit_eq fun i => ?_
  rw [Nat.testBit_and, Nat.testBit_two_pow_mul_add _ hb, Nat.testBit_two_pow_mul_add _ hd, Nat.testBit_two_pow_mul_add _ h]
  split <;> simp [Nat.testBit_and]
theorem or_cat (a b c d : Nat) (hb : b < 2 ^ 8) (hd : d < 2 ^ 8) : (2 ^ 8 * a + b) ||| (2 ^ 8 * c + d) = 2 ^ 8 * (a ||| c) + (b ||| d) := by
  have h : b ||| d < 2 ^ 8 := Nat.or_lt_two_pow hb hd
  refine Nat.eq_of_testBit_eq fun i => ?_
  rw [Nat.testBit_or, Nat.testBit_two_pow_mul_add _ hb, Nat.testBit_two_pow_mul_add _ hd, Nat.testBit_two_pow_mul_add _ h]
  split <;> simp [Nat.testBit_or]
/-- Four bytes as a number. -/
def n4 (a b c d : Nat) : Nat := a + b * 256 + c * 65536 + d * 16777216
theorem n4_cat (a b c d : Nat) : n4 a b c d = 2 ^ 8 * (2 ^ 8 * (2 ^ 8 * d + c) + b) + a := by
  simp only [n4]; omega
theorem n4_and (a b c d a' b' c' d' : Nat) (h : a < 256 ∧ b < 256 ∧ c < 256) (h' : a' < 256 ∧ b' < 256 ∧ c' < 256) : n4 a b c d &&& n4 a' b' c' d' = n4 (a &&& a') (b &&& b') (c &&& c') (d &&& d') := by
  rw [n4_cat a, n4_cat a', n4_cat (a &&& a')]
  rw [and_cat _ _ _ _ (by omega) (by omega), and_cat _ _ _ _ (by omega) (by omega), and_cat _ _ _ _ (by omega) (by omega)]
theorem n4_or (a b c d a' b' c' d' : Nat) (h : a < 256 ∧ b < 256 ∧ c < 256) (h' : a' < 256 ∧ b' < 256 ∧ c' < 256) : n4 a b c d ||| n4 a' b' c' d' = n4 (a ||| a') (b ||| b') (c ||| c') (d ||| d') := by
  rw [n4_cat a, n4_cat a', n4_cat (a ||| a')]
  rw [or_cat _ _ _ _ (by omega) (by omega), or_cat _ _ _ _ (by omega) (by omega), or_cat _ _ _ _ (by omega) (by omega)]
theorem and255 (a : Nat) (h : a < 256) : a &&& 255 = a := Nat.and_two_pow_sub_one_of_lt_two_pow (n := 8) h
/-- A number with its four bytes turned about. -/
def revN (x : Nat) : Nat := n4 (x / 16777216 % 256) (x / 65536 % 256) (x / 256 % 256) (x % 256)
theorem n4_of (x : Nat) (h : x < 4294967296) : x = n4 (x % 256) (x / 256 % 256) (x / 65536 % 256) (x / 16777216 % 256) := by
  simp only [n4]; omega
theorem rev_nat (x : Nat) (h : x < 4294967296) : (((x / 256 &&& 16711935) ||| ((x &&& 16711935) * 256 % 4294967296)) / 65536 ||| ((x / 256 &&& 16711935) ||| ((x &&& 16711935) * 256 % 4294967296)) * 65536 % 4294967296) = revN x := by
  obtain ⟨a, ha⟩ : ∃ a, a = x % 256 := ⟨_, rfl⟩
  obtain ⟨b, hb⟩ : ∃ b, b = x / 256 % 256 := ⟨_, rfl⟩
  obtain ⟨c, hc⟩ : ∃ c, c = x / 65536 % 256 := ⟨_, rfl⟩
  obtain ⟨d, hd⟩ : ∃ d, d = x / 16777216 % 256 := ⟨_, rfl⟩
  have l1 : a < 256 := by omega
  have l2 : b < 256 := by omega
  have l3 : c < 256 := by omega
  have l4 : d < 256 := by omega
  have e1 : x / 256 = n4 b c d 0 := by simp only [n4]; omega
  have e2 : x = n4 a b c d := by simp only [n4]; omega
  have em : 16711935 = n4 255 0 255 0 := rfl
  have e3 : x / 256 &&& 16711935 = n4 b 0 d 0 := by
    rw [e1, em, n4_and _ _ _ _ _ _ _ _ ⟨l2, l3, l4⟩ (by decide), and255 b l2, and255 d l4]; simp
  have e4 : x &&& 16711935 = n4 a 0 c 0 := by
    conv => lhs; rw [e2]
    rw [em, n4_and _ _ _ _ _ _ _ _ ⟨l1, l2, l3⟩ (by decide), and255 a l1, and255 c l3]; simp
  have e5 : n4 a 0 c 0 * 256 % 4294967296 = n4 0 a 0 c := by simp only [n4]; omega
  have e6 : n4 b 0 d 0 ||| n4 0 a 0 c = n4 b a d c := by
    rw [n4_or _ _ _ _ _ _ _ _ ⟨l2, by decide, l4⟩ ⟨by decide, l1, by decide⟩]; simp
  have e7 : n4 b a d c / 65536 = n4 d c 0 0 := by simp only [n4]; omega
  have e8 : n4 b a d c * 65536 % 4294967296 = n4 0 0 b a := by
    have t1 : n4 b a d c * 65536 = n4 0 0 b a + 4294967296 * (d + c * 256) := by simp only [n4]; omega
    have t2 : n4 0 0 b a < 4294967296 := by simp only [n4]; omega
    rw [t1, Nat.add_mul_mod_self_left, Nat.mod_eq_of_lt t2]
  rw [e3, e4, e5, e6, e7, e8, n4_or _ _ _ _ _ _ _ _ ⟨l4, l3, by decide⟩ ⟨by decide, by decide, l2⟩]
  unfold revN
  rw [← ha, ← hb, ← hc, ← hd]
  simp

theorem rev_any (x : Nat) (hx : x < 4294967296) (w : World) : Calls Tryz.prog 104 #[.int .u32 x] w fun e w' => e = .returned (.int .u32 (revN x)) ∧ w = w' := by
  go_enter Tryz.func104, Tryz.ntmps104
  have h1 : ((x : Int) / 256) = ((x / 256 : Nat) : Int) := by omega
  have h2 : bits .and .u32 ((x / 256 : Nat) : Int) 16711935 = ((x / 256 &&& 16711935 : Nat) : Int) := u32_and_nat (x / 256) 16711935 (by omega) (by decide)
  have h3 : bits .and .u32 (x : Int) 16711935 = ((x &&& 16711935 : Nat) : Int) := u32_and_nat x 16711935 hx (by decide)
  obtain ⟨A, hA⟩ : ∃ A, x / 256 &&& 16711935 = A := ⟨_, rfl⟩
  obtain ⟨B, hB⟩ : ∃ B, x &&& 16711935 = B := ⟨_, rfl⟩
  have lA : A < 4294967296 := by rw [← hA]; exact Nat.lt_of_le_of_lt Nat.and_le_left (by omega)
  rw [hA] at h2
  rw [hB] at h3
  have h4 : ((B : Int) * 256 % 4294967296) = ((B * 256 % 4294967296 : Nat) : Int) := by omega
  obtain ⟨C, hC⟩ : ∃ C, B * 256 % 4294967296 = C := ⟨_, rfl⟩
  have lC : C < 4294967296 := by omega
  rw [hC] at h4
  have h5 : bits .or .u32 (A : Int) (C : Int) = ((A ||| C : Nat) : Int) := u32_or_nat A C lA lC
  obtain ⟨D, hD⟩ : ∃ D, A ||| C = D := ⟨_, rfl⟩
  have lD : D < 4294967296 := by rw [← hD]; exact Nat.or_lt_two_pow (n := 32) lA lC
  rw [hD] at h5
  have h6 : ((D : Int) / 65536) = ((D / 65536 : Nat) : Int) := by omega
  have h7 : ((D : Int) * 65536 % 4294967296) = ((D * 65536 % 4294967296 : Nat) : Int) := by omega
  have h8 : bits .or .u32 ((D / 65536 : Nat) : Int) ((D * 65536 % 4294967296 : Nat) : Int) = ((D / 65536 ||| D * 65536 % 4294967296 : Nat) : Int) := u32_or_nat _ _ (by omega) (by omega)
  have h9 := rev_nat x hx
  rw [hA, hB, hC, hD] at h9
  rw [h9] at h8
  have HF : Hid (bits .or .u32 (bits .or .u32 (bits .and .u32 ((x : Int) / 256) 16711935) (bits .and .u32 (x : Int) 16711935 * 256 % 4294967296) / 65536) (bits .or .u32 (bits .and .u32 ((x : Int) / 256) 16711935) (bits .and .u32 (x : Int) 16711935 * 256 % 4294967296) * 65536 % 4294967296) = (revN x : Int)) := by
    rw [Hid, h1, h2, h3, h4, h5, h6, h7, h8]
  clear h1 h2 h3 h4 h5 h6 h7 h8 h9 hA hB hC hD lA lC lD
  go_wp2
  go_ret
  exact ⟨by rw [HF.out]; rfl, rfl⟩
end Go.Proofs.YthokoimoiamddaaGreatDoor
set_option linter.unusedSimpArgs false
set_option linter.unusedVariables false
namespace Go.Proofs.YthokoimoiamddaaGreatDoor
open Go Go.RowKit

theorem n4_bytes (a b c d : Nat) (h1 : a < 256) (h2 : b < 256) (h3 : c < 256) (h4 : d < 256) : n4 a b c d / 16777216 = d ∧ n4 a b c d / 65536 % 256 = c ∧ n4 a b c d / 256 % 256 = b ∧ n4 a b c d % 256 = a ∧ n4 a b c d < 4294967296 := by
  simp only [n4]; omega
theorem rev_bytes (x : Nat) : revN x / 16777216 = x % 256 ∧ revN x / 65536 % 256 = x / 256 % 256 ∧ revN x / 256 % 256 = x / 65536 % 256 ∧ revN x % 256 = x / 16777216 % 256 ∧ revN x < 4294967296 :=
  n4_bytes _ _ _ _ (by omega) (by omega) (by omega) (by omega)
theorem le32_vs (x : Nat) : byteVs (le32 x) = [.int .u8 ((x % 256 : Nat) : Int), .int .u8 ((x / 256 % 256 : Nat) : Int), .int .u8 ((x / 65536 % 256 : Nat) : Int), .int .u8 ((x / 16777216 % 256 : Nat) : Int)] := by
  simp only [byteVs, le32, byteV, List.map_cons, List.map_nil, ofNat_mod]
theorem four_any (x : Nat) (hx : x < 4294967296) (w : World) : Calls Tryz.prog 70 #[.int .u32 x] w fun e w' => ∃ (A : Option Addr), e = .returned (.slice A 4 4) ∧ BytesAt w' A (le32 x) ∧ Below w.heap.size w w' := by
  obtain ⟨h1, h2, h3, h4, h5⟩ := rev_bytes x
  have HX := Lib.hid hx
  obtain ⟨y, hy⟩ : ∃ y, Hid (revN x = y) := ⟨_, rfl⟩
  rw [hy.out] at h1 h2 h3 h4 h5
  have HV : Hid (#[Value.int .u8 ((y : Int) / 16777216), .int .u8 ((y : Int) / 65536 % 256), .int .u8 ((y : Int) / 256 % 256), .int .u8 ((y : Int) % 256)] = (byteVs (le32 x)).toArray) := by
    have e1 : ((y : Int) / 16777216) = ((x % 256 : Nat) : Int) := by omega
    have e2 : ((y : Int) / 65536 % 256) = ((x / 256 % 256 : Nat) : Int) := by omega
    have e3 : ((y : Int) / 256 % 256) = ((x / 65536 % 256 : Nat) : Int) := by omega
    have e4 : ((y : Int) % 256) = ((x / 16777216 % 256 : Nat) : Int) := by omega
    rw [Hid, le32_vs, e1, e2, e3, e4]
  clear hx h1 h2 h3 h4
  go_enter Tryz.func70, Tryz.ntmps70
  go_wp2_with (go_at_call 104; refine (rev_any x HX.out _).mono ?_; rintro e w1 ⟨rfl, rfl⟩; rw [hy.out])
  go_ret
  refine ⟨_, rfl, ?_, (Below.refl _ _).alloc (Nat.le_refl _) _⟩
  rw [HV.out]
  exact newbytes w _

set_option maxHeartbeats 1000000 in
theorem put_any (A : Option Addr) (n c : Nat) (bs : List UInt8) (A2 : Option Addr) (n2 c2 : Nat) (ms : List UInt8) (hn : bs.length = n) (hn2 : ms.length = n2) (w : World) (hA : BytesAt w A bs) (hA2 : BytesAt w A2 ms) (hl : n + n2 ≤ 2000000) :
    Calls Tryz.prog 69 #[.slice A n c, .slice A2 n2 c2] w fun e w' => ∃ (A' : Option Addr) (c' : Nat), e = .returned (.slice A' (n + n2) c') ∧ BytesAt w' A' (bs ++ ms) ∧ Below w.heap.size w w' ∧ ∀ ad, A' = some ad → w.heap.size ≤ ad.block := by
  obtain ⟨i0, hi, hz0, hz1, hz2⟩ := info_parts byte_info
  obtain ⟨N, hN⟩ : ∃ N, Hid (n + n2 = N) := ⟨_, rfl⟩
  obtain ⟨W1, hW1⟩ : ∃ W1, Hid (W1 = w.alloc (.cells (madeCells (Value.int .u8 0).cells (N * i0.size)) 5)) := ⟨_, rfl⟩
  have hmk : (Instr.makeSlice 23 (.int .i64 0) (.int .i64 (N : Int))).run Tryz.prog w = .ok (.slice (some ⟨w.heap.size, 0, none⟩) 0 N) W1 := by
    have hN' := hN.out
    have h := run_make (P := Tryz.prog) w 23 5 i0 (.int .u8 0) Tryz.underlying23 hi hz0 .i64 .i64 0 (N : Int) (by omega) (by omega) (by rw [hz2]; omega) (by omega)
    rw [hW1.out]
    simpa using h
  have HD : Hid (DRow W1 (.slice (some ⟨w.heap.size, 0, none⟩) 0 N) []) := by
    rw [hW1.out]
    have := hN.out
    exact drow_new w _ N [] (by simp [byteVs]) (Nat.zero_le _) (by rw [size_madeCells, hz1]; omega) (Nat.le_trans (m := 2000000) (by omega) (by decide))
  have HB1 : Hid (Below w.heap.size w W1) := by rw [hW1.out]; exact (Below.refl _ _).alloc (Nat.le_refl _) _
  have HA1 : Hid (BytesAt W1 A bs) := hA.below HB1.out
  have HA2 : Hid (BytesAt W1 A2 ms) := hA2.below HB1.out
  have HN := Lib.hid hn
  have HN2 := Lib.hid hn2
  have HL : Hid (N ≤ 2000000) := by have := hN.out; simp only [Hid]; omega
  have hw : IntKind.i64.wrap ((n : Int) + n2) = (N : Int) := by have := hN.out; have := HL.out; rw [IntKind.wrap_i64]; omega
  clear hA hl hn hn2
  rw [hN.out]
  go_enter Tryz.func69, Tryz.ntmps69
  go_wp2_with (at_builtin; refine wpList_append_bytes _ rfl _ _ rfl (.slice (some ⟨w.heap.size, 0, none⟩) 0 N) [] bs A n c rfl rfl HN.out HD.out HA1.out (by have := HL.out; have := HN.out; have := hN.out; simp; omega) ?_; intro v' w1 d1 g1 o1; refine Hid.out ?_)
  have HD1 : Hid (DRow w1 v' bs) := d1
  have HB2 : Hid (Below w.heap.size w w1) := HB1.out.grown g1 (by have := HB1.out.size; omega) (fun g e => by simp [Value.ownBlock] at e; omega)
  have HA3 : Hid (BytesAt w1 A2 ms) := hA2.below HB2.out
  have HO1 : Hid (∀ g, v'.ownBlock = some g → w.heap.size ≤ g) := fun g hg => by
    rcases o1 g hg with h | h
    · simp [Value.ownBlock] at h; omega
    · exact Nat.le_trans HB1.out.size h
  clear d1 g1 o1 hA2
  refine Lib.hid ?_
  go_wp2_with (at_builtin; refine wpList_append_bytes _ rfl _ _ rfl v' bs ms A2 n2 c2 rfl rfl HN2.out HD1.out HA3.out (by have := HL.out; have := HN.out; have := HN2.out; have := hN.out; omega) ?_; intro v2 w2 d2 g2 o2; refine Hid.out ?_)
  have HB3 : Hid (Below w.heap.size w w2) := HB2.out.grown g2 HB2.out.size (fun g e => HO1.out g e)
  have HO2 : Hid (∀ g, v2.ownBlock = some g → w.heap.size ≤ g) := fun g hg => by
    rcases o2 g hg with h | h
    · exact HO1.out g h
    · exact Nat.le_trans HB2.out.size h
  obtain ⟨A', c', rfl, hA', _⟩ := d2.slice
  have HA' := Lib.hid hA'
  have HLN : Hid ((bs ++ ms).length = N) := by have := HN.out; have := HN2.out; have := hN.out; simp only [Hid, List.length_append]; omega
  rw [HLN.out]
  clear d2 g2 o2 hA' HO1
  refine Lib.hid ?_
  go_wp2
  go_ret
  exact ⟨A', c', rfl, HA'.out, HB3.out, fun ad e => HO2.out _ (by rw [e]; rfl)⟩
end Go.Proofs.YthokoimoiamddaaGreatDoor
set_option linter.unusedSimpArgs false
set_option linter.unusedVariables false
namespace Go.Proofs.YthokoimoiamddaaGreatDoor
open Go Go.RowKit

set_option maxHeartbeats 1000000 in
/-- Frame: the length, the sum, the bytes. -/
theorem frame_any (A : Option Addr) (n c : Nat) (bs : List UInt8) (hn : bs.length = n) (w : World) (hA : BytesAt w A bs) (hl : n ≤ 1048576) :
    Calls Tryz.prog 47 #[.slice A n c] w fun e w' => ∃ (A' : Option Addr) (c' : Nat), e = .returned (.tuple #[.slice A' (n + 8) c', .nilIface]) ∧ BytesAt w' A' (frameP sumB bs) ∧ Below w.heap.size w w' ∧ ∀ ad, A' = some ad → w.heap.size ≤ ad.block := by
  have HA := Lib.hid hA
  have HN := Lib.hid hn
  have HL := Lib.hid hl
  have hwn : IntKind.u32.wrap (n : Int) = (n : Int) := by have := HL.out; rw [IntKind.wrap_u32']; omega
  clear hA hn
  go_enter Tryz.func47, Tryz.ntmps47
  go_wp2_with (go_at_call 70; refine (four_any n (by have := HL.out; omega) _).mono ?_; rintro e w1 ⟨A1, rfl, h1, b1⟩; refine Hid.out ?_)
  have H1 := Lib.hid h1
  have HB1 : Hid (Below w.heap.size w w1) := b1
  have HA1 : Hid (BytesAt w1 A bs) := HA.out.below b1
  clear h1 b1
  refine Lib.hid ?_
  go_wp2_with (go_at_call 71; refine (sum_any A n c bs HN.out _ HA1.out (by have := HL.out; omega)).mono ?_; rintro e w2 ⟨rfl, rfl⟩; refine Hid.out ?_)
  refine Lib.hid ?_
  go_wp2_with (go_at_call 70; refine (four_any (sumB bs) (sumB_lt bs) _).mono ?_; rintro e w3 ⟨A3, rfl, h3, b3⟩; refine Hid.out ?_)
  have H3 := Lib.hid h3
  have HB3 : Hid (Below w.heap.size w w3) := HB1.out.trans (b3.mono HB1.out.size)
  have HA3 : Hid (BytesAt w3 A bs) := HA1.out.below b3
  have H13 : Hid (BytesAt w3 A1 (le32 n)) := H1.out.below b3
  clear h3 b3 H1
  refine Lib.hid ?_
  go_wp2_with (go_at_call 69; refine (put_any A1 4 4 (le32 n) A3 4 4 (le32 (sumB bs)) rfl rfl _ H13.out H3.out (by decide)).mono ?_; rintro e w4 ⟨A4, c4, rfl, h4, b4, _⟩; refine Hid.out ?_)
  have H4 := Lib.hid h4
  have HB4 : Hid (Below w.heap.size w w4) := HB3.out.trans (b4.mono HB3.out.size)
  have HA4 : Hid (BytesAt w4 A bs) := HA3.out.below b4
  clear h4 b4
  refine Lib.hid ?_
  go_wp2_with (go_at_call 69; refine (put_any A4 8 c4 (le32 n ++ le32 (sumB bs)) A n c bs rfl HN.out _ H4.out HA4.out (by have := HL.out; omega)).mono ?_; rintro e w5 ⟨A5, c5, rfl, h5, b5, n5⟩; refine Hid.out ?_)
  have H5 : Hid (BytesAt w5 A5 (frameP sumB bs)) := by
    have e : frameP sumB bs = le32 n ++ le32 (sumB bs) ++ bs := by have := HN.out; subst this; simp [frameP]
    rw [e]; exact h5
  have HB5 : Hid (Below w.heap.size w w5) := HB4.out.trans (b5.mono HB4.out.size)
  have HN5 : Hid (∀ ad, A5 = some ad → w.heap.size ≤ ad.block) := fun ad e => Nat.le_trans HB4.out.size (n5 ad e)
  clear h5 b5 n5
  rw [show 8 + n = n + 8 by omega]
  refine Lib.hid ?_
  go_wp2_with fail
  go_ret2
  exact ⟨A5, c5, rfl, H5.out, HB5.out, HN5.out⟩

theorem at_any (k n : Int) (w : World) : Calls Tryz.prog 96 #[.int .i64 k, .int .i64 n] w fun e w' => ∃ p, e = .returned (.iface 107 p) ∧ Below w.heap.size w w' := by
  go_enter Tryz.func96, Tryz.ntmps96
  go_wp2
  go_ret
  exact ⟨_, rfl, (Below.refl _ _).alloc (Nat.le_refl _) _⟩
theorem n4_num (x y z u : UInt8) : num32 [x, y, z, u] = n4 x.toNat y.toNat z.toNat u.toNat := rfl
theorem or_four (x y z u : Nat) (hx : x < 256) (hy : y < 256) (hz : z < 256) (hu : u < 256) : ((0 ||| n4 0 0 0 u) ||| n4 0 0 z 0 ||| n4 0 y 0 0) ||| n4 x 0 0 0 = n4 x y z u := by
  rw [Nat.zero_or, n4_or _ _ _ _ _ _ _ _ (by omega) (by omega), n4_or _ _ _ _ _ _ _ _ (by simp; omega) (by omega), n4_or _ _ _ _ _ _ _ _ (by simp; omega) (by omega)]
  simp
theorem number_any (a : Addr) (c : Nat) (x y z u : UInt8) (w : World) (hA : BytesAt w (some a) [x, y, z, u]) : Calls Tryz.prog 97 #[.slice (some a) 4 c] w fun e w' => e = .returned (.int .u32 (num32 [x, y, z, u])) ∧ w = w' := by
  have hc0 : w.cell? a = some (.int .u8 x.toNat) := hA.2 a rfl 0 (byteV x) rfl
  have hc1 : w.cell? ⟨a.block, a.off + 1, none⟩ = some (.int .u8 y.toNat) := hA.2 a rfl 1 (byteV y) rfl
  have hc2 : w.cell? ⟨a.block, a.off + 2, none⟩ = some (.int .u8 z.toNat) := hA.2 a rfl 2 (byteV z) rfl
  have hc3 : w.cell? ⟨a.block, a.off + 3, none⟩ = some (.int .u8 u.toNat) := hA.2 a rfl 3 (byteV u) rfl
  have lx := x.toNat_lt
  have ly := y.toNat_lt
  have lz := z.toNat_lt
  have lu := u.toNat_lt
  rw [n4_num]
  generalize x.toNat = X at *
  generalize y.toNat = Y at *
  generalize z.toNat = Z at *
  generalize u.toNat = U at *
  have h1 : bits .or .u32 0 ((U : Int) * 16777216) = ((0 ||| n4 0 0 0 U : Nat) : Int) := by
    have := u32_or_nat 0 (n4 0 0 0 U) (by decide) (by simp only [n4]; omega)
    rw [← this]; congr 1; simp only [n4]; omega
  obtain ⟨A, hA1⟩ : ∃ A, 0 ||| n4 0 0 0 U = A := ⟨_, rfl⟩
  have lA : A < 4294967296 := by rw [← hA1, Nat.zero_or]; simp only [n4]; omega
  rw [hA1] at h1
  have h2 : bits .or .u32 (A : Int) ((Z : Int) * 65536) = ((A ||| n4 0 0 Z 0 : Nat) : Int) := by
    have := u32_or_nat A (n4 0 0 Z 0) lA (by simp only [n4]; omega)
    rw [← this]; congr 1; simp only [n4]; omega
  obtain ⟨B, hB1⟩ : ∃ B, A ||| n4 0 0 Z 0 = B := ⟨_, rfl⟩
  have lB : B < 4294967296 := by rw [← hB1]; exact Nat.or_lt_two_pow (n := 32) lA (by simp only [n4]; omega)
  rw [hB1] at h2
  have h3 : bits .or .u32 (B : Int) ((Y : Int) * 256) = ((B ||| n4 0 Y 0 0 : Nat) : Int) := by
    have := u32_or_nat B (n4 0 Y 0 0) lB (by simp only [n4]; omega)
    rw [← this]; congr 1; simp only [n4]; omega
  obtain ⟨C, hC1⟩ : ∃ C, B ||| n4 0 Y 0 0 = C := ⟨_, rfl⟩
  have lC : C < 4294967296 := by rw [← hC1]; exact Nat.or_lt_two_pow (n := 32) lB (by simp only [n4]; omega)
  rw [hC1] at h3
  have h4 : bits .or .u32 (C : Int) (X : Int) = ((n4 X Y Z U : Nat) : Int) := by
    have h5 := u32_or_nat C (n4 X 0 0 0) lC (by simp only [n4]; omega)
    have h6 := or_four X Y Z U lx ly lz lu
    rw [hA1, hB1, hC1] at h6
    rw [h6] at h5
    rw [← h5]; rfl
  have HF : Hid (bits .or .u32 (bits .or .u32 (bits .or .u32 (bits .or .u32 0 ((U : Int) * 16777216)) ((Z : Int) * 65536)) ((Y : Int) * 256)) (X : Int) = ((n4 X Y Z U : Nat) : Int)) := by
    rw [Hid, h1, h2, h3, h4]
  clear h1 h2 h3 h4 hA1 hB1 hC1 lA lB lC hA
  obtain ⟨x1, hx1⟩ : ∃ x1 : Int, Hid ((X : Int) = x1) := ⟨_, rfl⟩
  obtain ⟨y1, hy1⟩ : ∃ y1 : Int, Hid ((Y : Int) = y1) := ⟨_, rfl⟩
  obtain ⟨z1, hz1⟩ : ∃ z1 : Int, Hid ((Z : Int) = z1) := ⟨_, rfl⟩
  obtain ⟨u1, hu1⟩ : ∃ u1 : Int, Hid ((U : Int) = u1) := ⟨_, rfl⟩
  have bx : 0 ≤ x1 ∧ x1 < 256 := by have := hx1.out; omega
  have by_ : 0 ≤ y1 ∧ y1 < 256 := by have := hy1.out; omega
  have bz : 0 ≤ z1 ∧ z1 < 256 := by have := hz1.out; omega
  have bu : 0 ≤ u1 ∧ u1 < 256 := by have := hu1.out; omega
  obtain ⟨bx1, bx2⟩ := bx
  obtain ⟨by1, by2⟩ := by_
  obtain ⟨bz1, bz2⟩ := bz
  obtain ⟨bu1, bu2⟩ := bu
  rw [hx1.out] at hc0 HF
  rw [hy1.out] at hc1 HF
  rw [hz1.out] at hc2 HF
  rw [hu1.out] at hc3 HF
  clear lx ly lz lu
  go_enter Tryz.func97, Tryz.ntmps97
  go_wp2
  go_ret
  exact ⟨by rw [← HF.out]; rfl, rfl⟩
end Go.Proofs.YthokoimoiamddaaGreatDoor
