/-
  disk: what DiskLimits' disk holds, call by call; the names; rows of noughts. Own work.
-/
import Derived.Test.YtfhdcjfkngflbaaDoorDiskTwo
import Derived.Laws.MakeOwn
import Derived.Laws.Concat
set_option linter.unusedSimpArgs false
set_option linter.unusedVariables false
namespace Go.Proofs.YtfhdcjfkngflbaaDoor
open Go Go.RowKit

def kBig : ByteArray := ⟨#[98, 105, 103]⟩
def kMore : ByteArray := ⟨#[111, 110, 101, 95, 109, 111, 114, 101]⟩
def letterL : List UInt8 := [97, 98, 99, 100, 101, 102, 103, 104, 105, 106, 107, 108, 109, 110, 111, 112, 113, 114, 115, 116, 117, 118, 119, 120, 121, 122, 48, 49, 50, 51, 52, 53, 54, 55, 56, 57]
/-- The name of file i. -/
def nmI (i : Nat) : ByteArray := ⟨#[102, letterL.getD (i % 36) 0, letterL.getD (i / 36) 0]⟩
theorem nmI_ok : ∀ i, i < 64 → nmB (nmI i) = true ∧ (nmI i).size = 3 := by decide
theorem nmI_inj : ∀ i, i < 64 → ∀ j, j < 64 → nmI i = nmI j → i = j := by
  intro i hi j hj h
  have h1 : letterL.getD (i % 36) 0 = letterL.getD (j % 36) 0 := by
    have := congrArg (fun b : ByteArray => b.data[1]!) h; simpa [nmI] using this
  have h2 : letterL.getD (i / 36) 0 = letterL.getD (j / 36) 0 := by
    have := congrArg (fun b : ByteArray => b.data[2]!) h; simpa [nmI] using this
  have hl : ∀ a, a < 36 → ∀ b, b < 36 → letterL.getD a 0 = letterL.getD b 0 → a = b := by decide
  have h3 := hl _ (Nat.mod_lt _ (by omega)) _ (Nat.mod_lt _ (by omega)) h1
  have h4 := hl (i / 36) (by omega) (j / 36) (by omega) h2
  omega
theorem nmI_big (i : Nat) : nmI i ≠ kBig := fun h => by
  have := congrArg (fun b : ByteArray => b.data[0]!) h
  simp [nmI, kBig] at this
theorem nmI_more (i : Nat) : nmI i ≠ kMore := fun h => by
  have := congrArg ByteArray.size h
  simp [nmI, kMore, ByteArray.size] at this

def letterS : ByteArray := ⟨#[97, 98, 99, 100, 101, 102, 103, 104, 105, 106, 107, 108, 109, 110, 111, 112, 113, 114, 115, 116, 117, 118, 119, 120, 121, 122, 48, 49, 50, 51, 52, 53, 54, 55, 56, 57]⟩
def oneB (x : UInt8) : ByteArray := ⟨#[x]⟩
theorem letter_at : ∀ a, a < 36 → letterS.extract a (a + 1) = oneB (letterL.getD a 0) := by decide
theorem letterS_size : letterS.size = 36 := by decide
theorem run_letterS (a : Nat) (ha : a < 36) (W : World) : (Instr.slice 9 (.string letterS) (some (.int .i64 (a : Int))) (some (.int .i64 ((a : Int) + 1))) none).run Tryd.prog W = .ok (.string (oneB (letterL.getD a 0))) W := by
  have h := run_slice_string (P := Tryd.prog) W 9 letterS .i64 .i64 (a : Int) ((a : Int) + 1) Tryd.underlying9 (by omega) (by omega) (by rw [letterS_size]; omega)
  have e1 : ((a : Int) + 1).toNat = a + 1 := by omega
  rw [e1, Int.toNat_natCast, letter_at a ha] at h
  exact h
theorem run_cat (a b : ByteArray) (h : a.size + b.size ≤ 100) (W : World) : (Op.stringOp .add a b).run Tryd.prog W = .ok (.string (a ++ b)) W := by
  rw [run_string_add_sum W _ _ (by omega)]
theorem name_is (i : Nat) : (⟨#[102]⟩ ++ oneB (letterL.getD (i % 36) 0) ++ oneB (letterL.getD (i / 36) 0) : ByteArray) = nmI i := by
  apply ByteArray.ext
  simp [nmI, oneB]

def zeros (n : Nat) : List UInt8 := List.replicate n 0
theorem zeros_len (n : Nat) : (zeros n).length = n := by unfold zeros; rw [List.length_replicate]
theorem made_zeros (n : Nat) : madeCells #[.int .u8 0] n = (byteVs (zeros n)).toArray := by
  apply Array.ext'
  apply List.ext_getElem?
  intro i
  unfold madeCells byteVs zeros byteV
  simp only [Array.toList_map, Array.toList_range, List.getElem?_map, List.map_replicate, List.getElem?_replicate]
  by_cases h : i < n
  · rw [List.getElem?_range h, if_pos h]; simp [Nat.mod_one]
  · rw [List.getElem?_eq_none (by simp; omega), if_neg h]; rfl
theorem run_make_bytes (n : Nat) (hn : n ≤ 281474976710656) (w : World) : (Instr.makeSlice 28 (.int .i64 (n : Int)) (.int .i64 (n : Int))).run Tryd.prog w = .ok (.slice (some ⟨w.heap.size, 0, none⟩) n n) (w.alloc (.cells (byteVs (zeros n)).toArray 5)) := by
  obtain ⟨i0, hi, hz0, hz1, hz2⟩ := info_parts byte_info
  have h := run_make (P := Tryd.prog) w 28 5 i0 (.int .u8 0) Tryd.underlying28 hi hz0 .i64 .i64 (n : Int) (n : Int) (by omega) (Int.le_refl _) (by rw [hz2]; omega) (by omega)
  rw [← made_zeros]
  simpa [hz1, Value.cells] using h

/-- The disk ahead of file i's making. -/
structure Lm (w0 : World) (base B i : Nat) (W : World) : Prop where
  dk : ∃ v t s, Dk base W B v t i s ∧ (∀ j, i ≤ j → j < 64 → v (nmI j) = none) ∧ v kMore = none ∧ (∃ p, v kBig = some p ∧ p.1.length ≤ 1048576) ∧ t ≤ 10
  old : Below w0.heap.size w0 W
  low : w0.heap.size ≤ base
section
variable {w0 W : World} {base B : Nat}
theorem lapp_other {k name : ByteArray} (v : Vw) (t : Int) (p : List UInt8) (h : k ≠ name) : appV v t name p k = v k := by
  unfold appV; rw [if_neg h]
theorem lm_app {i : Nat} (h : Lm w0 base B i W) (hi : 1 ≤ i) (hi2 : i < 64) (k : ByteArray) (hk : k = nmI i) : Calls Tryd.prog 7 #[.pointer (some ⟨B, 0, none⟩), .string k, .slice none 0 0] W fun e w' => e = .returned .nilIface ∧ Hid (Lm w0 base B (i + 1) w') := by
  subst hk
  obtain ⟨⟨v, t, s, h1, h2, h3, ⟨p, h4, h5⟩, h6⟩, h7, h8⟩ := h
  obtain ⟨hn, hsz⟩ := nmI_ok i hi2
  have hv := h2 i (Nat.le_refl _) hi2
  refine (dk_append_ok h1 (nmI i) none 0 0 [] rfl (by omega) ⟨fun _ => rfl, fun ad e => (by cases e)⟩ (by omega) (by unfold appEv; rw [if_pos hn, hv]; simp only; rw [if_neg (by omega), if_neg (by omega)])).mono ?_
  rintro e w' ⟨rfl, s', h9, h10, h11⟩
  rw [hv] at h9
  refine ⟨rfl, ⟨_, _, s', h9, fun j hj hj2 => ?_, ?_, ⟨p, ?_, h5⟩, by simpa using h6⟩, h7.trans (h11.mono h8), h8⟩
  · rw [lapp_other _ _ _ (fun e => by have := nmI_inj j hj2 i hi2 e; omega)]; exact h2 j (by omega) hj2
  · rw [lapp_other _ _ _ (fun e => nmI_more i e.symm)]; exact h3
  · rw [lapp_other _ _ _ (fun e => nmI_big i e.symm)]; exact h4
theorem lm_names {i : Nat} (h : Lm w0 base B i W) : Calls Tryd.prog 10 #[.pointer (some ⟨B, 0, none⟩)] W fun e w' => ∃ (A : Option Addr) (c : Nat), e = .returned (.slice A i c) ∧ Hid (Lm w0 base B i w') := by
  have h0 := h
  obtain ⟨⟨v, t, s, h1, h2, h3, h4, h6⟩, h7, h8⟩ := h
  refine (dk_names h1).mono ?_
  rintro e w' ⟨A, c, ks, rfl, _, _, _, _, _, hb⟩
  exact ⟨A, c, rfl, ⟨v, t, s, h1.below hb, h2, h3, h4, h6⟩, h7.trans (hb.mono (Nat.le_trans h8 h1.low)), h8⟩
theorem lm_full (h : Lm w0 base B 64 W) : Calls Tryd.prog 7 #[.pointer (some ⟨B, 0, none⟩), .string kMore, .slice none 0 0] W fun e w' => e = .returned (.iface 31 (.int .i64 11)) ∧ W = w' := by
  obtain ⟨⟨v, t, s, h1, h2, h3, h4, h6⟩, h7, h8⟩ := h
  exact dk_append_no h1 kMore none 0 0 [] rfl (by decide) ⟨fun _ => rfl, fun ad e => (by cases e)⟩ (by omega) 11 (by unfold appEv; rw [if_pos (by decide), h3]; simp)
theorem Lm.below {i : Nat} (h : Lm w0 base B i W) {W' : World} (hb : Below W.heap.size W W') : Lm w0 base B i W' := by
  obtain ⟨⟨v, t, s, h1, h2, h3, h4, h6⟩, h7, h8⟩ := h
  exact ⟨⟨v, t, s, h1.below hb, h2, h3, h4, h6⟩, h7.trans (hb.mono (Nat.le_trans h8 h1.low)), h8⟩
/-- Behind the deletion of 'big'. -/
def Lm2 (w0 : World) (base B : Nat) (W : World) : Prop := (∃ v t s, Dk base W B v t 63 s ∧ v kMore = none ∧ t ≤ 10) ∧ Below w0.heap.size w0 W ∧ w0.heap.size ≤ base
theorem lm_del (h : Lm w0 base B 64 W) : Calls Tryd.prog 11 #[.pointer (some ⟨B, 0, none⟩), .string kBig] W fun e w' => e = .returned .nilIface ∧ Hid (Lm2 w0 base B w') := by
  obtain ⟨⟨v, t, s, h1, h2, h3, ⟨p, h4, h5⟩, h6⟩, h7, h8⟩ := h
  refine (dk_delete h1 h4).mono ?_
  rintro e w' ⟨rfl, s', h9, h10, h11⟩
  exact ⟨rfl, ⟨_, _, s', h9, by unfold dropV; rw [if_neg (by decide)]; exact h3, h6⟩, h7.trans (h11.mono h8), h8⟩
theorem lm_last (h : Lm2 w0 base B W) : Calls Tryd.prog 7 #[.pointer (some ⟨B, 0, none⟩), .string kMore, .slice none 0 0] W fun e w' => e = .returned .nilIface ∧ Hid (Below w0.heap.size w0 w') := by
  obtain ⟨⟨v, t, s, h1, h3, h6⟩, h7, h8⟩ := h
  refine (dk_append_ok h1 kMore none 0 0 [] rfl (by decide) ⟨fun _ => rfl, fun ad e => (by cases e)⟩ (by omega) (by unfold appEv; rw [if_pos (by decide), h3]; simp)).mono ?_
  rintro e w' ⟨rfl, s', h9, h10, h11⟩
  exact ⟨rfl, h7.trans (h11.mono h8)⟩
/-- Behind the first 'big'. -/
def Lm0 (w0 : World) (base B N : Nat) (W : World) : Prop := (∃ t s, Dk base W B (appV (fun _ => none) 0 kBig (zeros N)) t 1 s ∧ t ≤ 1) ∧ Below w0.heap.size w0 W ∧ w0.heap.size ≤ base
theorem lm_big {s : St} (h : Dk base W B (fun _ => none) 0 0 s) (ho : Below w0.heap.size w0 W) (hl : w0.heap.size ≤ base) (N : Nat) (hN : N = 1048575) (A : Option Addr) (hA : BytesAt W A (zeros N)) : Calls Tryd.prog 7 #[.pointer (some ⟨B, 0, none⟩), .string kBig, .slice A N N] W fun e w' => e = .returned .nilIface ∧ Hid (Lm0 w0 base B N w') := by
  refine (dk_append_ok h kBig A N N (zeros N) (zeros_len N) (by decide) hA (by decide) (by unfold appEv; rw [if_pos (by decide)]; simp only; rw [if_neg (by omega), if_neg (by omega)])).mono ?_
  rintro e w' ⟨rfl, s', h9, h10, h11⟩
  refine ⟨rfl, ⟨_, s', h9, ?_⟩, ho.trans (h11.mono hl), hl⟩
  split <;> omega
theorem big_at (N : Nat) : appV (fun _ => none) 0 kBig (zeros N) kBig = some (zeros N, if zeros N = [] then [] else [(0 + 1, ((zeros N).length : Int))]) := by
  unfold appV; rw [if_pos rfl]; simp
theorem Lm0.lm {N : Nat} (h : Lm0 w0 base B N W) (hN : N = 1048575) : Lm w0 base B 1 W := by
  obtain ⟨⟨t, s, h1, h2⟩, h3, h4⟩ := h
  refine ⟨⟨_, t, s, h1, fun j hj hj2 => ?_, ?_, ⟨_, big_at N, ?_⟩, by omega⟩, h3, h4⟩
  · rw [lapp_other _ _ _ (nmI_big j)]
  · rw [lapp_other _ _ _ (by decide)]
  · rw [zeros_len]; omega
theorem Lm0.below {N : Nat} (h : Lm0 w0 base B N W) {W' : World} (hb : Below W.heap.size W W') : Lm0 w0 base B N W' := by
  obtain ⟨⟨t, s, h1, h2⟩, h3, h4⟩ := h
  exact ⟨⟨t, s, h1.below hb, h2⟩, h3.trans (hb.mono (Nat.le_trans h4 h1.low)), h4⟩
theorem lm_big2 {N : Nat} (h : Lm0 w0 base B N W) (hN : N = 1048575) (m : Nat) (hm : m ≤ 1) (A : Option Addr) (hA : BytesAt W A (zeros m)) : Calls Tryd.prog 7 #[.pointer (some ⟨B, 0, none⟩), .string kBig, .slice A m m] W fun e w' => e = .returned .nilIface ∧ Hid (Lm w0 base B 1 w') := by
  obtain ⟨⟨t, s, h1, h2⟩, h3, h4⟩ := h
  refine (dk_append_ok h1 kBig A m m (zeros m) (zeros_len m) (by decide) hA (by omega) (by unfold appEv; rw [if_pos (by decide), big_at]; simp only; rw [zeros_len, if_neg (by omega), if_neg (by omega)])).mono ?_
  rintro e w' ⟨rfl, s', h9, h10, h11⟩
  rw [big_at] at h9
  refine ⟨rfl, ⟨_, _, s', h9, fun j hj hj2 => ?_, ?_, ⟨_, by unfold appV; rw [if_pos rfl], ?_⟩, ?_⟩, h3.trans (h11.mono h4), h4⟩
  · rw [lapp_other _ _ _ (nmI_big j), lapp_other _ _ _ (nmI_big j)]
  · rw [lapp_other _ _ _ (by decide), lapp_other _ _ _ (by decide)]
  · rw [← show (fun _ => none : Vw) = (fun _ => none : Vw) from rfl]
    simp only [if_true, Option.map_none, Option.getD_none, List.nil_append, Option.map_some, Option.getD_some, List.length_append, zeros_len]
    omega
  · split <;> omega
theorem lm_big3 {N : Nat} (h : Lm0 w0 base B N W) (hN : N = 1048575) (m : Nat) (hm : 1 < m) (hm2 : m ≤ 5) (A : Option Addr) (hA : BytesAt W A (zeros m)) : Calls Tryd.prog 7 #[.pointer (some ⟨B, 0, none⟩), .string kBig, .slice A m m] W fun e w' => e = .returned (.iface 31 (.int .i64 2)) ∧ W = w' := by
  obtain ⟨⟨t, s, h1, h2⟩, h3, h4⟩ := h
  exact dk_append_no h1 kBig A m m (zeros m) (zeros_len m) (by decide) hA (by omega) 2 (by unfold appEv; rw [if_pos (by decide), big_at]; simp only; rw [zeros_len, if_neg (by omega), if_pos (by omega)])
end
end Go.Proofs.YtfhdcjfkngflbaaDoor
