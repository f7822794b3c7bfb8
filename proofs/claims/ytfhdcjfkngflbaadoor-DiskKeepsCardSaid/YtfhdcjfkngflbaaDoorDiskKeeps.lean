/-
  disk: the law DiskKeeps, walked. Own work.
-/
import Derived.Test.YtfhdcjfkngflbaaDoorDiskTouch
import Derived.Test.YtfhdcjfkngflbaaDoorErrOf
import Derived.Deep.RegionHeldLaw
set_option linter.unusedSimpArgs false
set_option linter.unusedVariables false
namespace Go.Proofs.YtfhdcjfkngflbaaDoor
open Go Go.RowKit

def kpV (p : List UInt8) : Vw := appV (fun _ => none) 0 kA p
def kpT (p : List UInt8) : Int := 0 + (if p = [] then 0 else 1)
theorem kpV_a (p : List UInt8) : kpV p kA = some (p, if p = [] then [] else [(1, (p.length : Int))]) := by
  unfold kpV appV; rw [if_pos rfl]; simp

section
variable {base B : Nat} {w : World} {s : St}
/-- Append of q: a row newer than the disk stays apart from it. -/
theorem keeps_app (hd : Dk base w B (fun _ => none) 0 0 s) (b2 : Nat) (A : Option Addr) (n c : Nat) (p : List UInt8) (hp : p.length = n) (hn : n ≤ 1000) (hrow : w.ownsRow b2 5 1 (.slice A n c) n (byteVs p)) (hc : ∀ g, s.own g → (Value.slice A n c).ownBlock ≠ some g) :
    Calls Tryd.prog 7 #[.pointer (some ⟨B, 0, none⟩), .string kA, .slice A n c] w fun e w' => e = .returned .nilIface ∧ Hid (∃ s', Dk base w' B (kpV p) (kpT p) 1 s' ∧ Below base w w' ∧ w'.ownsRow b2 5 1 (.slice A n c) n (byteVs p) ∧ ∀ g, s'.own g → (Value.slice A n c).ownBlock ≠ some g) := by
  refine (dk_append_ok hd kA A n c p hp (by decide) (BytesAt.of_own hrow) (by decide) (by unfold appEv; rw [if_pos (by decide)]; simp only; rw [if_neg (by omega), if_neg (by omega)])).mono ?_
  rintro e w' ⟨rfl, s', h1, h2, h3⟩
  refine ⟨rfl, s', h1, h3, ownsRow_keep hrow fun g hg => ?_, fun g hg e => ?_⟩
  · obtain ⟨cur, hh, h4, h5⟩ := own_block hrow hg
    exact h2.block g h5 fun ho => hc g ho hg
  · obtain ⟨cur, hh, h4, h5⟩ := own_block hrow e
    rcases h2.own g hg with h | h
    · exact hc g h e
    · omega
theorem keeps_read {p : List UInt8} (hd : Dk base w B (kpV p) (kpT p) 1 s) (n : Nat) (hp : p.length = n) :
    Calls Tryd.prog 13 #[.pointer (some ⟨B, 0, none⟩), .string kA] w fun e w' => ∃ A c, e = .returned (.tuple #[.slice A n c, .nilIface]) ∧ Hid (w'.ownsRow w.heap.size 5 1 (.slice A n c) n (byteVs p) ∧ Below w.heap.size w w' ∧ Dk base w' B (kpV p) (kpT p) 1 s ∧ ∀ g, s.own g → (Value.slice A n c).ownBlock ≠ some g) := by
  subst hp
  refine (dk_read hd (kpV_a p)).mono ?_
  rintro e w' ⟨A, c, rfl, hrow, hb⟩
  refine ⟨A, c, rfl, hrow, hb, hd.below hb, fun g hg e => ?_⟩
  obtain ⟨cur, hh, h4, h5⟩ := own_block hrow e
  have := hd.at_.lt hg
  omega
end
theorem row_block_ge {base : Nat} {w : World} {A : Option Addr} {n c : Nat} {xs : List Value} (h : w.ownsRow base 5 1 (.slice A n c) n xs) : ∀ g, (Value.slice A n c).ownBlock = some g → base ≤ g := fun _ hg => (own_block h hg).choose_spec.2.1
theorem Nums.ge {base : Nat} {w : World} {A : Option Addr} {n c : Nat} (h : Nums base w (.slice A n c) n) : ∀ g, (Value.slice A n c).ownBlock = some g → base ≤ g := by
  obtain ⟨xs, h⟩ := h
  exact row_block_ge h

/-- The facts kept over the law's last line: the box of 'want', and that nothing elder has turned. -/
abbrev KK (w0 : World) (g : Nat) (W : World) : Prop := W.cell? ⟨g, 0, none⟩ = some (.bool true) ∧ W.cell? ⟨g, 1, none⟩ = some (.slice none 0 0) ∧ W.cell? ⟨g, 2, none⟩ = some (.int .i64 19) ∧ Hid (Below w0.heap.size w0 W)
theorem KK.step {w0 : World} {g : Nat} {W W' : World} (h : KK w0 g W) (hb : Below W.heap.size W W') : KK w0 g W' := by
  obtain ⟨h1, h2, h3, h4⟩ := h
  refine ⟨?_, ?_, ?_, h4.out.trans (hb.mono h4.out.size)⟩
  · exact (hb.cell (p := ⟨g, 0, none⟩) (World.block_lt_of_cell? W _ h1)).trans h1
  · exact (hb.cell (p := ⟨g, 1, none⟩) (World.block_lt_of_cell? W _ h2)).trans h2
  · exact (hb.cell (p := ⟨g, 2, none⟩) (World.block_lt_of_cell? W _ h3)).trans h3
theorem ap_new (w : World) (v : Value) (t : TypeId) : ∀ j u, [v][j]? = some u → (w.alloc (.cells #[v] t)).cell? ((⟨w.heap.size, 0, none⟩ : Addr).add j) = some u :=
  World.news_of_block (cs := #[v]) (t := t) (fr := (0, 0)) (heap_alloc_new w _)

set_option maxRecDepth 100000 in
set_option maxHeartbeats 4000000 in
theorem keeps_in (A : Option Addr) (n c : Nat) (bs : List UInt8) (hbn : bs.length = n) (name : ByteArray) (w : World) (hA : BytesAt w A bs) (hT : ErrT w) (hn : ¬ 1000 < n) :
    Calls Tryd.prog 4 #[.slice A n c, .string name] w fun e w' => e = .returned (.bool true) ∧ Below w.heap.size w w' := by
  have d : decide ((n : Int) > 1000) = false := by simp; omega
  have HN : Hid (n ≤ 1000 ∧ bs.length = n) := ⟨by omega, hbn⟩
  have HA := Lib.hid hA
  have HT := Lib.hid hT
  clear hA hT hn hbn
  go_enter Tryd.func4, Tryd.ntmps4
  go_wp2_with fail
  refine (awake_any _).mono ?_
  rintro e w1 ⟨rfl, hb⟩
  have hb1 := Lib.hid hb
  clear hb
  go_wp2_with fail
  refine (newDisk_any _).mono ?_
  rintro e w' ⟨rfl, rfl⟩
  obtain ⟨w2, hw2⟩ : ∃ w2, w2 = (w1.alloc (.map #[] 0)).alloc (.cells #[.map (some w1.heap.size), .int .i64 0] 50) := ⟨_, rfl⟩
  obtain ⟨B, hB⟩ : ∃ B, B = w1.heap.size + 1 := ⟨_, rfl⟩
  have H2 : Hid (Below w1.heap.size w1 w2 ∧ Dk w1.heap.size w2 B (fun _ => none) 0 0 (newSt w1)) := by rw [hw2, hB]; exact ⟨((Below.refl _ _).alloc (Nat.le_refl _) _).alloc (by simp) _, dk_new w1⟩
  rw [← hw2, ← hB]
  clear hw2 hB
  go_wp2_with fail
  have HTW := twin_any A bs c w2 (HA.out.below (hb1.out.trans (H2.out.1.mono hb1.out.size))) (by have := HN.out; omega)
  rw [HN.out.2] at HTW
  refine HTW.mono ?_
  clear HTW
  rintro e w3 ⟨v3, rfl, hrow3, hb3⟩
  obtain ⟨A3, c3, rfl⟩ := own_slice hrow3
  have H3 : Hid (Below w1.heap.size w1 w3 ∧ Dk w1.heap.size w3 B (fun _ => none) 0 0 (newSt w1) ∧ w3.ownsRow w2.heap.size 5 1 (.slice A3 n c3) n (byteVs bs) ∧ (∀ g, (newSt w1).own g → (Value.slice A3 n c3).ownBlock ≠ some g) ∧ w1.heap.size ≤ w2.heap.size) := by
    refine ⟨H2.out.1.trans (hb3.mono H2.out.1.size), H2.out.2.below hb3, hrow3, fun g hg e => ?_, H2.out.1.size⟩
    have h1 := H2.out.2.at_.lt hg
    have h2 := row_block_ge hrow3 g e
    omega
  clear H2 hb3 hrow3
  go_wp2_with fail
  refine (keeps_app H3.out.2.1 w2.heap.size A3 n c3 bs HN.out.2 HN.out.1 H3.out.2.2.1 H3.out.2.2.2.1).mono ?_
  rintro e w4 ⟨rfl, H4⟩
  obtain ⟨s4, h4d, h4b, h4r, h4c⟩ := H4.out
  have H4' : Hid (Below w1.heap.size w1 w4 ∧ Dk w1.heap.size w4 B (kpV bs) (kpT bs) 1 s4 ∧ w4.ownsRow w2.heap.size 5 1 (.slice A3 n c3) n (byteVs bs) ∧ (∀ g, s4.own g → (Value.slice A3 n c3).ownBlock ≠ some g) ∧ w1.heap.size ≤ w2.heap.size) := ⟨H3.out.1.trans h4b, h4d, h4r, h4c, H3.out.2.2.2.2⟩
  clear H4 h4d h4b h4r h4c H3
  go_wp2
  go_loopw [31] (fun i wr => ∃ (j : Nat), j ≤ n ∧ i = .int .i64 j ∧ Hid (Nums w2.heap.size wr (.slice A3 n c3) n ∧ Touch (Value.slice A3 n c3).ownBlock w4 wr)) (fun i _ => n - (intOf i).toNat)
  case atStart => exact ⟨0, Nat.zero_le _, rfl, nums_of H4'.out.2.2.1, Touch.refl _ _⟩
  case round =>
    obtain ⟨j, hj, rfl, HS⟩ := hrel
    by_cases hlt : j < n
    · obtain ⟨g, x, rfl, hg, hc, hf, hbl, hset⟩ := HS.out.1.cell hlt
      have hj0 : ((0 : Int) ≤ j) := by omega
      have hj1 : ((j : Nat) : Int) < n := by omega
      have hwr : IntKind.i64.wrap ((j : Int) + 1) = ((j : Int) + 1) := by have := HN.out; rw [IntKind.wrap_i64]; omega
      go_wp2
      exact ⟨⟨j + 1, hlt, by simp, hset _, HS.out.2.trans (Touch.set _ _ _ _)⟩, by simp [intOf]; omega⟩
    · have hjn : j = n := by omega
      subst hjn
      have H6 : Hid (Below w1.heap.size w1 wr ∧ Dk w1.heap.size wr B (kpV bs) (kpT bs) 1 s4) :=
        ⟨H4'.out.1.trans (HS.out.2.below fun g hg => Nat.le_trans H4'.out.2.2.2.2 (HS.out.1.ge g hg)), H4'.out.2.1.touch (fun g hg => H4'.out.2.2.2.1 g hg) HS.out.2⟩
      obtain ⟨wo, rfl⟩ : ∃ wo : World, wo = wr := ⟨_, rfl⟩
      clear HS H4' hlt hj
      go_wp2_with fail
      refine (keeps_read H6.out.2 j HN.out.2).mono ?_
      rintro e w7 ⟨A7, c7, rfl, H7⟩
      have H7' : Hid (Below w1.heap.size w1 w7 ∧ Dk w1.heap.size w7 B (kpV bs) (kpT bs) 1 s4 ∧ w7.ownsRow wo.heap.size 5 1 (.slice A7 j c7) j (byteVs bs) ∧ (∀ g, s4.own g → (Value.slice A7 j c7).ownBlock ≠ some g) ∧ w1.heap.size ≤ wo.heap.size ∧ wo.heap.size ≤ w7.heap.size) := ⟨H6.out.1.trans (H7.out.2.1.mono H6.out.1.size), H7.out.2.2.1, H7.out.1, H7.out.2.2.2, H6.out.1.size, H7.out.2.1.size⟩
      clear H6 H7
      go_wp2
      go_loopw [48] (fun i w8 => ∃ (k : Nat), k ≤ j ∧ i = .int .i64 k ∧ Hid (Nums wo.heap.size w8 (.slice A7 j c7) j ∧ Touch (Value.slice A7 j c7).ownBlock w7 w8)) (fun i _ => j - (intOf i).toNat)
      case atStart => exact ⟨0, Nat.zero_le _, rfl, nums_of H7'.out.2.2.1, Touch.refl _ _⟩
      case round =>
        obtain ⟨k, hk, rfl, HS⟩ := hrel
        by_cases hlt : k < j
        · obtain ⟨g, x, rfl, hg, hc, hf, hbl, hset⟩ := HS.out.1.cell hlt
          have hj0 : ((0 : Int) ≤ k) := by omega
          have hj1 : ((k : Nat) : Int) < j := by omega
          have hwr : IntKind.i64.wrap ((k : Int) + 1) = ((k : Int) + 1) := by have := HN.out; rw [IntKind.wrap_i64]; omega
          go_wp2
          exact ⟨⟨k + 1, hlt, by simp, hset _, HS.out.2.trans (Touch.set _ _ _ _)⟩, by simp [intOf]; omega⟩
        · have hjn : k = j := by omega
          subst hjn
          have H9 : Hid (Below w1.heap.size w1 wr ∧ Dk w1.heap.size wr B (kpV bs) (kpT bs) 1 s4 ∧ Nums wo.heap.size wr (.slice A7 k c7) k ∧ (∀ g, s4.own g → (Value.slice A7 k c7).ownBlock ≠ some g) ∧ w1.heap.size ≤ wo.heap.size ∧ wo.heap.size ≤ wr.heap.size) :=
            ⟨H7'.out.1.trans (HS.out.2.below fun g hg => Nat.le_trans H7'.out.2.2.2.2.1 (HS.out.1.ge g hg)), H7'.out.2.1.touch (fun g hg => H7'.out.2.2.2.1 g hg) HS.out.2, HS.out.1, H7'.out.2.2.2.1, H7'.out.2.2.2.2.1, by rw [HS.out.2.size]; exact H7'.out.2.2.2.2.2⟩
          clear HS H7' hlt hk
          obtain ⟨xs, hxs⟩ := H9.out.2.2.1
          obtain ⟨i0, hi, hz0, hz1, hz2⟩ := info_parts byte_info
          have hown0 : Hid (∀ o, (wr.alloc o).ownsRow wo.heap.size 5 1 (.slice A7 k c7) k (xs.map (.int .u8))) := fun o => hxs.alloc o
          have hl1 : Hid (k + 1 ≤ maxLen) := Nat.le_trans (show k + 1 ≤ 1001 by have := HN.out; omega) (by decide)
          have hl2 : Hid ((k + 1) * 1 ≤ 140737488355328) := by have := HN.out; simp only [Hid]; omega
          have hl3 : Hid (∀ o, wo.heap.size ≤ (wr.alloc o).heap.size) := fun o => Nat.le_trans H9.out.2.2.2.2.2 (by simp)
          clear hxs
          go_wp2_with (at_builtin; refine wpList_append_own _ rfl _ _ 28 rfl wo.heap.size 5 i0 (.int .u8 0) 1 1 Tryd.underlying28 hi hz0 hz1 hz2 rfl (by decide) (.slice A7 k c7) k _ rfl (hown0.out _) ⟨wr.heap.size, 0, none⟩ 1 1 [.int .u8 1] rfl rfl (ap_new _ _ _) (by simp [Value.oneCell']) hl1.out hl2.out (hl3.out _) ?_; intro v' w10 hown1 hgrow hnil)
          obtain ⟨A8, c8, rfl⟩ := own_slice hown1
          have H10 : Hid (Below w1.heap.size w1 w10 ∧ Dk w1.heap.size w10 B (kpV bs) (kpT bs) 1 s4) := by
            have hg := hgrow
            refine ⟨?_, ?_⟩
            · exact ((H9.out.1.alloc (Nat.le_trans H9.out.2.2.2.2.1 H9.out.2.2.2.2.2) _)).grown hg (Nat.le_trans (Nat.le_trans H9.out.2.2.2.2.1 H9.out.2.2.2.2.2) (by simp)) (fun g hg2 => Nat.le_trans H9.out.2.2.2.2.1 (H9.out.2.2.1.ge g hg2))
            · exact (H9.out.2.1.below ((Below.refl _ _).alloc (Nat.le_refl _) _)).grown (fun g hg2 e => H9.out.2.2.2.1 g hg2 e.symm) hg
          clear hown1 hgrow hnil hown0 hl1 hl2 hl3 H9
          go_wp2_with fail
          refine (keeps_read H10.out.2 k HN.out.2).mono ?_
          rintro e w11 ⟨A11, c11, rfl, H11⟩
          have H11' : Hid (Below w1.heap.size w1 w11 ∧ BytesAt w11 A11 bs) := ⟨H10.out.1.trans (H11.out.2.1.mono H10.out.1.size), BytesAt.of_own H11.out.1⟩
          clear H10 H11
          go_wp2_with fail
          refine (read_nil name _).mono ?_
          rintro e w12 ⟨rfl, rfl⟩
          go_wp2_with fail
          refine (n_any 19 _).mono ?_
          rintro e w13 ⟨rfl, hb13⟩
          have HB13 := Lib.hid hb13
          clear hb13
          go_wp2
          obtain ⟨w14, hw14⟩ : ∃ w14, w14 = w13.alloc (.cells #[.bool true, .slice none 0 0, .int .i64 19] 33) := ⟨_, rfl⟩
          have hb14 : Hid (Below w11.heap.size w11 w14) := by rw [hw14]; exact HB13.out.alloc HB13.out.size _
          have q0 : w14.cell? ⟨w13.heap.size, 0, none⟩ = some (.bool true) := by rw [hw14]; simp
          have q1 : w14.cell? ⟨w13.heap.size, 1, none⟩ = some (.slice none 0 0) := by rw [hw14]; simp
          have q2 : w14.cell? ⟨w13.heap.size, 2, none⟩ = some (.int .i64 19) := by rw [hw14]; simp
          rw [← hw14]
          clear hw14 HB13
          have hK : KK w14 w13.heap.size w14 := ⟨q0, q1, q2, Below.refl _ _⟩
          clear q0 q1 q2
          obtain ⟨G, hG⟩ : ∃ G, G = w13.heap.size := ⟨_, rfl⟩
          rw [← hG] at hK ⊢
          have HAT : Hid (∀ W, KK w14 G W → BytesAt W A bs ∧ BytesAt W A11 bs ∧ ErrT W ∧ Below w.heap.size w W) := fun W hW => by
            have h1 : Below w11.heap.size w11 W := hb14.out.trans (hW.2.2.2.out.mono hb14.out.size)
            have h2 : Below w1.heap.size w1 W := H11'.out.1.trans (h1.mono H11'.out.1.size)
            have h3 : Below w.heap.size w W := hb1.out.trans (h2.mono hb1.out.size)
            exact ⟨HA.out.below h3, H11'.out.2.below h1, HT.out.below h3, h3⟩
          have HBY : Hid (∀ W, KK w14 G W → Calls Tryd.prog 14 #[.slice A11 k c11, .slice A k c] W fun e w' => e = .returned (.bool true) ∧ KK w14 G w') := fun W hW => by
            have h1 := bytes_any A11 A bs bs c11 c W (HAT.out W hW).2.1 (HAT.out W hW).1
            rw [HN.out.2] at h1
            refine h1.mono ?_
            rintro e w' ⟨rfl, rfl⟩
            exact ⟨by simp, hW⟩
          have HF : Hid (∀ W, KK w14 G W → Calls Tryd.prog 8 #[.iface 31 (.int .i64 19), .agg #[.bool true, .slice none 0 0, .int .i64 19]] W fun e w' => e = .returned (.bool true) ∧ KK w14 G w') := fun W hW => by
            refine (fails_plain 19 19 W (HAT.out W hW).2.2.1).mono ?_
            rintro e w' ⟨rfl, hb⟩
            exact ⟨rfl, hW.step hb⟩
          have HNA : Hid (∀ W, KK w14 G W → Calls Tryd.prog 7 #[.pointer none, .string name, .slice A k c] W fun e w' => e = .returned (.iface 31 (.int .i64 19)) ∧ KK w14 G w') := fun W hW => by
            refine (append_nil name A k c W).mono ?_
            rintro e w' ⟨rfl, rfl⟩
            exact ⟨rfl, hW⟩
          have HNC : Hid (∀ W, KK w14 G W → Calls Tryd.prog 15 #[.pointer none, .string name, .int .i64 0] W fun e w' => e = .returned (.iface 31 (.int .i64 19)) ∧ KK w14 G w') := fun W hW => by
            refine (cut_nil name 0 W).mono ?_
            rintro e w' ⟨rfl, rfl⟩
            exact ⟨rfl, hW⟩
          have HND : Hid (∀ W, KK w14 G W → Calls Tryd.prog 11 #[.pointer none, .string name] W fun e w' => e = .returned (.iface 31 (.int .i64 19)) ∧ KK w14 G w') := fun W hW => by
            refine (delete_nil name W).mono ?_
            rintro e w' ⟨rfl, rfl⟩
            exact ⟨rfl, hW⟩
          have HNS : Hid (∀ W, KK w14 G W → Calls Tryd.prog 16 #[.pointer none] W fun e w' => e = .returned (.iface 31 (.int .i64 19)) ∧ KK w14 G w') := fun W hW => by
            refine (sync_nil W).mono ?_
            rintro e w' ⟨rfl, rfl⟩
            exact ⟨rfl, hW⟩
          have HNX : Hid (∀ W, KK w14 G W → Calls Tryd.prog 17 #[.pointer none, .int .i64 0] W fun e w' => e = .returned (.iface 31 (.int .i64 19)) ∧ KK w14 G w') := fun W hW => by
            refine (crash_nil 0 W).mono ?_
            rintro e w' ⟨rfl, rfl⟩
            exact ⟨rfl, hW⟩
          have HNN : Hid (∀ W, KK w14 G W → Calls Tryd.prog 10 #[.pointer none] W fun e w' => e = .returned (.slice none 0 0) ∧ KK w14 G w') := fun W hW => by
            refine (names_nil W).mono ?_
            rintro e w' ⟨rfl, rfl⟩
            exact ⟨rfl, hW⟩
          have HNL : Hid (∀ W, KK w14 G W → Calls Tryd.prog 18 #[.pointer none] W fun e w' => e = .returned (.int .i64 0) ∧ KK w14 G w') := fun W hW => by
            refine (loose_nil W).mono ?_
            rintro e w' ⟨rfl, rfl⟩
            exact ⟨rfl, hW⟩
          have HEND : Hid (∀ W, KK w14 G W → Below w.heap.size w W) := fun W hW => (HAT.out W hW).2.2.2
          have dlen : ((k : Int) + 1 > 0) := by omega
          have dlen2 : 0 < k + 1 := by omega
          clear HAT H11' hb14 hG HA HT hb1 d
          have hKd : KK w14 G w14.drew := hK.step (Below.refl _ _).drew
          go_region_held_law (fun W => W.cell? ⟨G, 0, none⟩ = some (.bool true) ∧ W.cell? ⟨G, 1, none⟩ = some (.slice none 0 0) ∧ W.cell? ⟨G, 2, none⟩ = some (.int .i64 19) ∧ Hid (Below w14.heap.size w14 W))
            (assumption)
            (first
              | (go_at_call 14; refine (HBY.out _ (by assumption)).mono ?_; rintro e w15 ⟨rfl, hK13⟩)
              | (go_at_call 8; refine (HF.out _ (by assumption)).mono ?_; rintro e w15 ⟨rfl, hK13⟩)
              | (go_at_call 7; refine (HNA.out _ (by assumption)).mono ?_; rintro e w15 ⟨rfl, hK13⟩)
              | (go_at_call 15; refine (HNC.out _ (by assumption)).mono ?_; rintro e w15 ⟨rfl, hK13⟩)
              | (go_at_call 11; refine (HND.out _ (by assumption)).mono ?_; rintro e w15 ⟨rfl, hK13⟩)
              | (go_at_call 16; refine (HNS.out _ (by assumption)).mono ?_; rintro e w15 ⟨rfl, hK13⟩)
              | (go_at_call 17; refine (HNX.out _ (by assumption)).mono ?_; rintro e w15 ⟨rfl, hK13⟩)
              | (go_at_call 10; refine (HNN.out _ (by assumption)).mono ?_; rintro e w15 ⟨rfl, hK13⟩)
              | (go_at_call 18; refine (HNL.out _ (by assumption)).mono ?_; rintro e w15 ⟨rfl, hK13⟩))
          all_goals
            have HLAST := Lib.hid (HEND.out _ hK13)
            clear HBY HF HNA HNC HND HNS HNX HNN HNL HEND hK hKd
            go_wp2
            go_ret
            exact ⟨rfl, HLAST.out⟩

theorem keeps_out (A : Option Addr) (n c : Nat) (name : ByteArray) (w : World) (hn : 1000 < n) :
    Calls Tryd.prog 4 #[.slice A n c, .string name] w fun e w' => e = .returned (.bool true) ∧ Below w.heap.size w w' := by
  have d : decide ((n : Int) > 1000) = true := by simp; omega
  go_enter Tryd.func4, Tryd.ntmps4
  go_wp2_with (go_at_call 5; refine (awake_any _).mono ?_; rintro e w1 ⟨rfl, hb⟩)
  go_ret
  exact ⟨rfl, hb⟩

theorem keeps_any (A : Option Addr) (c : Nat) (bs : List UInt8) (name : ByteArray) (w : World) (hA : BytesAt w A bs) (hT : ErrT w) :
    Calls Tryd.prog 4 #[.slice A bs.length c, .string name] w fun e w' => e = .returned (.bool true) ∧ Below w.heap.size w w' := by
  by_cases h : 1000 < bs.length
  · exact keeps_out A _ c name w h
  · exact keeps_in A _ c bs rfl name w hA hT h
end Go.Proofs.YtfhdcjfkngflbaaDoor
