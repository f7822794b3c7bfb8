/-
  wal: the frame that stands at a place. Own work.
-/
import Derived.Test.YthokoimoiamddaaGreatDoorB8
import Derived.Test.YthokoimoiamddaaGreatDoorB1
set_option linter.unusedSimpArgs false
set_option linter.unusedVariables false
namespace Go.Proofs.YthokoimoiamddaaGreatDoor
open Go Go.RowKit

/-- Where fewer than eight bytes are left. -/
theorem take_short (A : Option Addr) (n c f : Nat) (w : World) (hA : A = none → n = 0 ∧ c = 0) (hl : n ≤ 2000000) (hc : n ≤ c) (hf : f ≤ n) (h : n < f + 8) :
    Calls Tryz.prog 64 #[.slice A n c, .int .i64 f] w fun e w' => ∃ (p : Value), e = .returned (.tuple #[.slice none 0 0, .int .i64 0, .iface 107 p]) ∧ Below w.heap.size w w' := by
  have h1 : ¬ ((f : Int) < 0) := by omega
  have h2 : ¬ n < f := by omega
  have h3 : ((n : Int) - f) < 8 := by omega
  have h4 : ((n - f : Nat) : Int) < 8 := by omega
  have hcl := Lib.hid hl
  clear h hl
  cases A with
  | none =>
    obtain ⟨rfl, rfl⟩ := hA rfl
    obtain rfl : f = 0 := by omega
    go_enter Tryz.func64, Tryz.ntmps64
    go_wp2_with (go_at_call 96; refine (at_any _ _ _).mono ?_; rintro e w1 ⟨p, rfl, hb⟩)
    go_ret3
    exact ⟨p, rfl, hb⟩
  | some a =>
    rcases Nat.eq_or_lt_of_le (Nat.le_trans hf hc) with h5 | h5
    · subst h5
      obtain rfl : n = f := by omega
      go_enter Tryz.func64, Tryz.ntmps64
      go_wp2_with (go_at_call 96; refine (at_any _ _ _).mono ?_; rintro e w1 ⟨p, rfl, hb⟩)
      go_ret3
      exact ⟨p, rfl, hb⟩
    · have h6 : ¬ f = c := by omega
      have h7 : ¬ c - f = 0 := by omega
      go_enter Tryz.func64, Tryz.ntmps64
      go_wp2_with (go_at_call 96; refine (at_any _ _ _).mono ?_; rintro e w1 ⟨p, rfl, hb⟩)
      go_ret3
      exact ⟨p, rfl, hb⟩

theorem add_add' (a : Addr) (f j : Nat) : (a.add f).add j = a.add (f + j) := by
  obtain ⟨b, o, s⟩ := a
  unfold Addr.add
  by_cases hf : f = 0
  · subst hf; simp
  · by_cases hj : j = 0
    · subst hj; simp [hf]
    · have : ¬ (f + j = 0) := by omega
      simp [hf, hj, Nat.add_assoc]
theorem BytesAt.drop {w : World} {a : Addr} {bs : List UInt8} (h : BytesAt w (some a) bs) (f : Nat) : BytesAt w (some (a.add f)) (bs.drop f) := by
  refine ⟨fun e => (by cases e), fun ad e j u hu => ?_⟩
  cases e
  rw [add_add']
  refine h.2 a rfl (f + j) u ?_
  rw [byteVs, List.getElem?_map] at hu ⊢
  rwa [List.getElem?_drop] at hu
theorem BytesAt.pre {w : World} {a : Addr} {bs ms : List UInt8} (h : BytesAt w (some a) (bs ++ ms)) : BytesAt w (some a) bs := by
  refine ⟨fun e => (by cases e), fun ad e j u hu => h.2 ad e j u ?_⟩
  rw [byteVs, List.map_append]
  have hj : j < (bs.map byteV).length := (List.getElem?_eq_some_iff.1 hu).1
  rw [List.getElem?_append_left hj]
  exact hu
/-- Eight bytes and a rest. -/
theorem eight (l : List UInt8) (h : 8 ≤ l.length) : ∃ x y z u x2 y2 z2 u2 t, l = [x, y, z, u] ++ ([x2, y2, z2, u2] ++ t) := by
  match l, h with
  | x :: y :: z :: u :: x2 :: y2 :: z2 :: u2 :: t, _ => exact ⟨x, y, z, u, x2, y2, z2, u2, t, rfl⟩

set_option maxHeartbeats 1000000 in
/-- Where the frame's end is not there. -/
theorem take_less (a : Addr) (n c f : Nat) (bs : List UInt8) (hn : bs.length = n) (w : World) (hA : BytesAt w (some a) bs) (hl : n ≤ 2000000) (hc : n ≤ c) (hf : f + 8 ≤ n) (h : n - f < num32 ((bs.drop f).take 4) + 8) :
    Calls Tryz.prog 64 #[.slice (some a) n c, .int .i64 f] w fun e w' => ∃ (p : Value), e = .returned (.tuple #[.slice none 0 0, .int .i64 0, .iface 107 p]) ∧ Below w.heap.size w w' := by
  obtain ⟨x, y, z, u, x2, y2, z2, u2, t, hr⟩ := eight (bs.drop f) (by rw [List.length_drop]; omega)
  have hd := hA.drop f
  rw [hr] at hd h
  have HH : Hid (BytesAt w (some (a.add f)) [x, y, z, u]) := hd.pre
  rw [List.take_left' (show [x, y, z, u].length = 4 from rfl)] at h
  obtain ⟨K, hK⟩ : ∃ K, Hid (num32 [x, y, z, u] = K) := ⟨_, rfl⟩
  have hlt := num32_lt [x, y, z, u]
  rw [hK.out] at h hlt
  have h1 : ¬ ((f : Int) < 0) := by omega
  have h2 : ¬ n < f := by omega
  have h3 : ¬ ((n : Int) - f) < 8 := by omega
  have h4 : ¬ ((n - f : Nat) : Int) < 8 := by omega
  have h6 : ¬ f = c := by omega
  have h7 : ¬ c - f = 0 := by omega
  have h8 : ¬ c - f < 4 := by omega
  obtain ⟨m, hm⟩ : ∃ m, Hid (n - f = m) := ⟨_, rfl⟩
  have hnum : Hid (Calls Tryz.prog 97 #[.slice (some (a.add f)) 4 (c - f)] w fun e w' => e = .returned (.int .u32 (K : Nat)) ∧ w = w') := by rw [← hK.out]; exact number_any _ _ _ _ _ _ _ HH.out
  have hw : IntKind.i64.wrap (((n - f : Nat) : Int) - 8) = ((n - f : Nat) : Int) - 8 := by rw [IntKind.wrap_i64]; omega
  clear hd HH hK hr hA hn
  go_enter Tryz.func64, Tryz.ntmps64
  by_cases hbig : (1048576 : Int) < K
  · go_wp2_with (first | (go_at_call 97; refine hnum.out.mono ?_; rintro e w1 ⟨rfl, rfl⟩) | (go_at_call 96; refine (at_any _ _ _).mono ?_; rintro e w1 ⟨p, rfl, hb⟩))
    go_ret3
    exact ⟨p, rfl, hb⟩
  · have h9 : ((n - f : Nat) : Int) - 8 < K := by omega
    go_wp2_with (first | (go_at_call 97; refine hnum.out.mono ?_; rintro e w1 ⟨rfl, rfl⟩) | (go_at_call 96; refine (at_any _ _ _).mono ?_; rintro e w1 ⟨p, rfl, hb⟩))
    go_ret3
    exact ⟨p, rfl, hb⟩
/-- The bytes of a frame that is whole. -/
theorem take_of (r : List UInt8) (p : List UInt8) (h : takeP sumB r = some p) : 8 ≤ r.length ∧ p.length = num32 (r.take 4) ∧ p.length ≤ 1048576 ∧ p.length + 8 ≤ r.length ∧ p = (r.drop 8).take p.length ∧ sumB p = num32 ((r.drop 4).take 4) := by
  obtain ⟨h1, h2, h3, h4⟩ := take_some h
  refine ⟨by omega, h1, h4, h2, h3, ?_⟩
  unfold takeP at h
  split at h
  · cases h
  · split at h
    · cases h
    · split at h
      · cases h
      · split at h
        · cases h
        · rename_i h5
          cases h
          exact Decidable.not_not.1 h5

theorem ownsRow_down {w : World} {base b2 : Nat} {e : TypeId} {size n : Nat} {v : Value} {xs : List Value} (h : w.ownsRow base e size v n xs) (hb : b2 ≤ base) : w.ownsRow b2 e size v n xs := by
  refine ⟨h.1, ?_⟩
  rcases h.2 with h2 | ⟨g, cap, cur, hv, hg, r⟩
  · exact .inl h2
  · exact .inr ⟨g, cap, cur, hv, Nat.le_trans hb hg, r⟩
/-- A copy of bytes. -/
theorem cloneB_bytes (A : Option Addr) (n c : Nat) (bs : List UInt8) (hn : bs.length = n) (w : World) (hA : BytesAt w A bs) (hl : n ≤ 2000000) :
    Calls Tryz.prog 61 #[.slice A n c] w fun e w' => ∃ (A' : Option Addr) (c' : Nat), e = .returned (.slice A' n c') ∧ w'.ownsRow w.heap.size 5 1 (.slice A' n c') n (byteVs bs) ∧ Below w.heap.size w w' := by
  refine (cloneB_any A n c (byteVs bs) w (by simp [byteVs, hn]) (Nat.le_trans (m := 2000000) hl (by decide)) (by omega) (fun e => by have := hA.1 e; omega) hA.2 (byteVs_one bs)).mono ?_
  rintro e w' ⟨v, rfl, h1, h2, h3⟩
  obtain ⟨A', c', rfl⟩ := own_slice h1
  exact ⟨A', c', rfl, h1, h2⟩

set_option maxHeartbeats 2000000 in
/-- Where a frame stands, not an empty one: its bytes in new memory, and where it ends. -/
theorem take_yes (a : Addr) (n c f : Nat) (bs : List UInt8) (hn : bs.length = n) (w : World) (hA : BytesAt w (some a) bs) (hl : n ≤ 2000000) (hc : n ≤ c) (p : List UInt8) (hp : p ≠ []) (h : takeP sumB (bs.drop f) = some p) :
    Calls Tryz.prog 64 #[.slice (some a) n c, .int .i64 f] w fun e w' => ∃ (A' : Option Addr) (c' : Nat), e = .returned (.tuple #[.slice A' p.length c', .int .i64 ((f + 8 + p.length : Nat) : Int), .nilIface]) ∧ w'.ownsRow w.heap.size 5 1 (.slice A' p.length c') p.length (byteVs p) ∧ Below w.heap.size w w' := by
  obtain ⟨q1, q2, q3, q4, q5, q6⟩ := take_of _ _ h
  rw [List.length_drop, hn] at q1 q4
  obtain ⟨x, y, z, u, x2, y2, z2, u2, t, hr⟩ := eight (bs.drop f) (by rw [List.length_drop]; omega)
  have hd := hA.drop f
  rw [hr] at hd q2 q5 q6
  have HH : Hid (BytesAt w (some (a.add f)) [x, y, z, u]) := hd.pre
  have hd2 := hd.drop 4
  have e4 : ([x, y, z, u] ++ ([x2, y2, z2, u2] ++ t)).drop 4 = [x2, y2, z2, u2] ++ t := rfl
  rw [e4] at hd2 q6
  have HH2 : Hid (BytesAt w (some ((a.add f).add 4)) [x2, y2, z2, u2]) := hd2.pre
  have hd3 := hd.drop 8
  have e8 : ([x, y, z, u] ++ ([x2, y2, z2, u2] ++ t)).drop 8 = t := rfl
  rw [e8] at hd3 q5
  rw [List.take_left' (show [x, y, z, u].length = 4 from rfl)] at q2
  rw [List.take_left' (show [x2, y2, z2, u2].length = 4 from rfl)] at q6
  have HH3 : Hid (BytesAt w (some ((a.add f).add 8)) p) := by
    have e : t = t.take p.length ++ t.drop p.length := (List.take_append_drop _ _).symm
    rw [e, ← q5] at hd3
    exact hd3.pre
  obtain ⟨K, hK⟩ : ∃ K, Hid (p.length = K) := ⟨_, rfl⟩
  have hK0 : 0 < K := by rw [← hK.out]; exact List.length_pos_iff.2 hp
  rw [hK.out] at q2 q3 q4 ⊢
  have hnum : ∀ W, Below w.heap.size w W → Calls Tryz.prog 97 #[.slice (some (a.add f)) 4 (c - f)] W fun e w' => e = .returned (.int .u32 (K : Nat)) ∧ W = w' := fun W hW => by rw [q2]; exact number_any _ _ _ _ _ _ _ (HH.out.below hW)
  have hnum2 : ∀ W, Below w.heap.size w W → Calls Tryz.prog 97 #[.slice (some ⟨(a.add f).block, (a.add f).off + 4, none⟩) 4 (c - f - 4)] W fun e w' => e = .returned (.int .u32 (sumB p : Nat)) ∧ Below w.heap.size w w' := fun W hW => by rw [q6]; exact (number_any _ _ _ _ _ _ _ (HH2.out.below hW)).mono (fun e w' ⟨h1, h2⟩ => ⟨h1, h2 ▸ hW⟩)
  have hsum : ∀ W, Below w.heap.size w W → Calls Tryz.prog 71 #[.slice (some ⟨(a.add f).block, (a.add f).off + 8, none⟩) K (c - f - 8)] W fun e w' => e = .returned (.int .u32 (sumB p : Nat)) ∧ Below w.heap.size w w' := fun W hW => (sum_any _ _ _ _ hK.out _ (HH3.out.below hW) (by omega)).mono (fun e w' ⟨h1, h2⟩ => ⟨h1, h2 ▸ hW⟩)
  have hcl : ∀ W, Below w.heap.size w W → Calls Tryz.prog 61 #[.slice (some ⟨(a.add f).block, (a.add f).off + 8, none⟩) K (c - f - 8)] W fun e w' => ∃ (A' : Option Addr) (c' : Nat), e = .returned (.slice A' K c') ∧ Hid (w'.ownsRow w.heap.size 5 1 (.slice A' K c') K (byteVs p) ∧ Below w.heap.size w w') := fun W hW => (cloneB_bytes _ _ _ p hK.out _ (HH3.out.below hW) (by omega)).mono (fun e w' ⟨A', c', h1, h2, h3⟩ => ⟨A', c', h1, ownsRow_down h2 hW.size, hW.trans (h3.mono hW.size)⟩)
  have HCL := Lib.hid hcl
  have HN1 := Lib.hid hnum
  have HN2 := Lib.hid hnum2
  have HS := Lib.hid hsum
  have h1 : ¬ ((f : Int) < 0) := by omega
  have h2 : ¬ n < f := by omega
  have h4 : ¬ ((n - f : Nat) : Int) < 8 := by omega
  have h6 : ¬ f = c := by omega
  have h7 : ¬ c - f = 0 := by omega
  have h8 : ¬ c - f < 4 := by omega
  have h9 : ¬ (1048576 : Int) < K := by omega
  have h10 : ¬ ((n - f : Nat) : Int) - 8 < K := by omega
  have hw : IntKind.i64.wrap (((n - f : Nat) : Int) - 8) = ((n - f : Nat) : Int) - 8 := by rw [IntKind.wrap_i64]; omega
  clear hd hd2 hd3 HH HH2 hr hA hn h hnum hnum2 hsum hcl q2 q5 q6 e4 e8
  go_enter Tryz.func64, Tryz.ntmps64
  go_wp2_with (go_at_call 97; refine (HN1.out _ (Below.refl _ _)).mono ?_; rintro e w1 ⟨rfl, rfl⟩)
  haveI : Nonempty (QW (fun W => Below w.heap.size w W)) := ⟨⟨w, Below.refl _ _⟩⟩
  have h11 : ¬ c - f = 8 := by omega
  have h12 : ¬ c - f = 4 := by omega
  have h13 : 8 + K ≤ c - f := by omega
  have h14 : 8 ≤ c - f := by omega
  have h15 : IntKind.i64.wrap (8 + (K : Int)) = ((8 + K : Nat) : Int) := by rw [IntKind.wrap_i64]; omega
  have h16 : 8 + K - 8 = K := by omega
  refine region_in (fun W => Below w.heap.size w W) (by kernel_rfl) (by kernel_rfl) (Below.refl _ _).drew ?_
  repeat (go_big_quiet_step ((first | (go_at_call 71; refine calls_in (HS.out _ (QW.ok _))) | (go_at_call 97; refine calls_in (HN2.out _ (QW.ok _))))))
  refine wpQuiet_nil ?_
  intro W5 hb5
  have HB5 := Lib.hid hb5
  clear hb5
  have h17 : IntKind.i64.wrap ((f : Int) + 8) = ((f + 8 : Nat) : Int) := by rw [IntKind.wrap_i64]; omega
  have h18 : IntKind.i64.wrap (((f + 8 : Nat) : Int) + (K : Int)) = ((f + 8 + K : Nat) : Int) := by rw [IntKind.wrap_i64]; omega
  go_wp2_with (go_at_call 61; refine (HCL.out _ HB5.out).mono ?_; rintro e w6 ⟨A', c', rfl, h6⟩)
  go_ret3
  exact ⟨A', c', rfl, h6.out.1, h6.out.2⟩
end Go.Proofs.YthokoimoiamddaaGreatDoor
